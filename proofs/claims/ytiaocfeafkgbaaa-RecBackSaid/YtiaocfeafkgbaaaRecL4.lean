/- The law RecBack. -/
import Derived.Test.YtiaocfeafkgbaaaRecL1
namespace Go.Proofs.Ytiaocfeafkgbaaa
open Go.RowKit

theorem enc_bytes (r : Rc) (h : r.ok) : ∀ z ∈ enc r, 0 ≤ z ∧ z ≤ 255 := by
  obtain ⟨-, -, -, h0, h1, h2, h3, -, -⟩ := h
  have hb : ∀ n u, ∀ z ∈ bytesZ n u, 0 ≤ z ∧ z ≤ 255 := fun n u z hz => by
    unfold bytesZ at hz
    obtain ⟨b, hb, rfl⟩ := List.mem_map.1 hz
    have := dig_lt n u b hb
    omega
  have hs : ∀ t n, ∀ z ∈ smallS t n, 0 ≤ z ∧ z ≤ 255 := fun t n z hz => by
    unfold smallS at hz
    split at hz
    · exact hb _ _ z hz
    · cases hz
  intro z hz
  unfold enc at hz
  rcases List.mem_append.1 hz with hz | hz
  · exact hb _ _ z hz
  · unfold bodyS at hz
    split at hz
    · exact hb _ _ z hz
    · split at hz
      · rcases List.mem_append.1 hz with hz | hz
        · rcases List.mem_append.1 hz with hz | hz
          · simp only [List.mem_cons, List.not_mem_nil, or_false] at hz
            have := (flags_parts r).1
            rcases hz with rfl | rfl | rfl | rfl | rfl <;> omega
          · exact hs _ _ z hz
        · exact hs _ _ z hz
      · cases hz
/-- Cut anywhere, all records that are whole ahead of the cut come back. -/
theorem cut_law {l : List Rc} (h : ∀ r ∈ l, RightRc r ∧ r.ok) {cut k : Nat} (hk : k ≤ l.length) (h1 : (encs (l.take k)).length ≤ cut) (h2 : k < l.length → cut < (encs (l.take (k + 1))).length) :
    allR ((encs l).take cut) = (l.take k, (encs (l.take k)).length) := by
  have he : encs l = encs (l.take k) ++ encs (l.drop k) := by rw [← encs_append, List.take_append_drop]
  have ht : ∀ r ∈ l.take k, RightRc r ∧ r.ok := fun r hr => h r (List.mem_of_mem_take hr)
  have e2 : (encs l).take cut = encs (l.take k) ++ (encs (l.drop k)).take (cut - (encs (l.take k)).length) := by
    rw [he, List.take_append, List.take_of_length_le h1]
  rw [e2]
  refine all_encs (l.take k) _ ht ?_
  by_cases hkl : k < l.length
  · have h3 := h2 hkl
    rw [encs_take hkl, List.length_append] at h3
    rw [List.drop_eq_getElem_cons hkl, encs_cons, List.take_append_of_le_length (by omega)]
    obtain ⟨hr, ho⟩ := h _ (List.getElem_mem hkl)
    exact dec_cut hr ho (by omega) (fun b hb => dec_ok hb) (enc_bytes _ ho)
  · have : l.drop k = [] := List.drop_eq_nil_of_le (by omega)
    rw [this, show encs [] = [] from rfl, List.take_nil]
    rfl
def rights (l : List Rc) : List Rc := l.filter rightRc
theorem rights_take {l : List Rc} {j : Nat} (hj : j < l.length) : rights (l.take (j + 1)) = rights (l.take j) ++ if rightRc l[j] = true then [l[j]] else [] := by
  unfold rights
  rw [List.take_succ_eq_append_getElem hj, List.filter_append]
  congr 1
  cases h : rightRc l[j] <;> simp [h]
def endsOf (l : List Rc) : List Int := (List.range (l.length + 1)).map fun j => ((encs (l.take j)).length : Int)
theorem ends_len (l : List Rc) : (endsOf l).length = l.length + 1 := by simp [endsOf]
theorem ends_at (l : List Rc) {j : Nat} (hj : j ≤ l.length) : (endsOf l).getD j 0 = ((encs (l.take j)).length : Int) := by
  unfold endsOf
  rw [List.getD_eq_getElem?_getD, List.getElem?_map, List.getElem?_range (by omega)]
  rfl
theorem ends_snoc (l : List Rc) (r : Rc) : endsOf (l ++ [r]) = endsOf l ++ [((encs (l ++ [r])).length : Int)] := by
  unfold endsOf
  rw [List.length_append, List.length_singleton, List.range_succ, List.map_append]
  congr 1
  · apply List.map_congr_left
    intro j hj
    rw [List.take_append_of_le_length (by have := List.mem_range.1 hj; omega)]
  · simp only [List.map_cons, List.map_nil]
    rw [List.take_of_length_le (by simp)]
theorem encs_one (l : List Rc) (r : Rc) : encs (l ++ [r]) = encs l ++ enc r := by
  rw [encs_append]
  congr 1
  show [r].flatMap enc = _
  rw [List.flatMap_cons, List.flatMap_nil, List.append_nil]
/-! ### numbers as rows of one-celled records: append tells where the row lies -/
def intF (k : IntKind) : Fmt Int := ⟨fun z => [.int k z], 1, fun _ => rfl, by decide, fun x u hu => by
  rw [List.mem_singleton] at hu
  subst hu
  rfl⟩
theorem intF_row (k : IntKind) : ∀ zs : List Int, (intF k).row zs = zs.map (Value.int k)
  | [] => rfl
  | z :: zs => by
    have := intF_row k zs
    unfold Fmt.row at this ⊢
    rw [List.flatMap_cons, this]
    rfl
theorem recs_of_ints {w : World} {k : IntKind} {a : Option Addr} {n c : Nat} {zs : List Int} (h : Ints w k a n c zs) : Recs (intF k) w a n c zs := by
  refine ⟨h.len, h.le, h.max, fun hn => ?_⟩
  obtain ⟨b, o, e, hc⟩ := h.cell hn
  refine ⟨b, o, e, fun j u hu => ?_⟩
  rw [intF_row] at hu
  have hj : j < zs.length := by have := (List.getElem?_eq_some_iff.1 hu).1; simpa using this
  rw [hc j (by rw [← h.len]; exact hj)]
  rw [List.getElem?_map, List.getElem?_eq_getElem hj] at hu
  rw [List.getD_eq_getElem?_getD, List.getElem?_eq_getElem hj]
  exact hu
theorem wpList_append_own {P : Program} {k : IntKind} {t E : TypeId} (H : Elem P (intF k) t E) (w : World) {ops : Array Oper} {rest : List Oper} {o : Oper} {a : Act} {Q : Exit → Act → World → Prop} (hgd : Region.wanted o (yielded ops a.tmps) = true) (s x : Operand)
    (ho : o.op = .call { callee := .builtin .append, args := #[s, x], argTypes := #[t, t] })
    (B : Nat) (v : Value) (xs : List Int) (hs : a.eval s = v) (hown : Own w B E k v xs)
    (ad : Option Addr) (m c : Nat) (news : List Int) (hx : a.eval x = .slice ad m c) (hnews : Ints w k ad m c news)
    (hmax : xs.length + m ≤ 1000000) (hbase : B ≤ w.heap.size)
    (h : ∀ v' w', Own w' B E k v' (xs ++ news) → w.grownBy w' v.ownBlock → (v'.ownBlock = v.ownBlock ∨ v'.ownBlock = some w.heap.size) → wpList P ops Q rest (a.put o.dst v') w') : wpList P ops Q (o :: rest) a w := by
  refine wpList_append_recs H w hgd s x ho B v xs hs (by unfold ROwn; rw [intF_row]; exact hown.1) ad m c news hx (recs_of_ints hnews) hmax hbase fun v' w' h1 h2 h3 => h v' w' ⟨?_, fun z hz => ?_⟩ h2 h3
  · unfold ROwn at h1
    rw [intF_row] at h1
    exact h1
  · rcases List.mem_append.1 hz with hz | hz
    · exact hown.2 z hz
    · exact hnews.fit z hz
theorem u8Elem : Elem Try.prog (intF .u8) 25 5 := ⟨Try.underlying25, ⟨_, _, rfl, rfl, rfl, rfl, by decide⟩⟩
theorem i64Elem : Elem Try.prog (intF .i64) 24 3 := ⟨Try.underlying24, ⟨_, _, rfl, rfl, rfl, rfl, by decide⟩⟩
/-- Two rows lie in different blocks. -/
def Dj (v u : Value) : Prop := ∀ k, v.ownBlock = some k → u.ownBlock ≠ some k
theorem Dj.symm {v u : Value} (h : Dj v u) : Dj u v := fun k hk e => h k e hk
theorem Dj.next {v v' u : Value} {w : World} (hd : Dj v u) (h : v'.ownBlock = v.ownBlock ∨ v'.ownBlock = some w.heap.size) (hu : ∀ k, u.ownBlock = some k → k < w.heap.size) : Dj v' u := fun k hk e => by
  rcases h with h | h
  · exact hd k (by rw [← h]; exact hk) e
  · rw [h] at hk
    cases hk
    have := hu _ e
    omega
theorem grown_keep {w w' : World} {v u : Value} (hg : w.grownBy w' v.ownBlock) (hd : Dj v u) : ∀ k, u.ownBlock = some k → k < w.heap.size → w'.heap[k]? = w.heap[k]? := fun k hk hl => hg.block k hl fun e => hd k e.symm hk
structure Tri (w0 w : World) (v5 v6 v7 : Value) (rs : List Rc) : Prop where
  l : RcOwn w w0.heap.size v5 rs
  e : Own w w0.heap.size 3 .i64 v6 (endsOf rs)
  a : Own w w0.heap.size 5 .u8 v7 (encs rs)
  d56 : Dj v5 v6
  d57 : Dj v5 v7
  d67 : Dj v6 v7
  b : Below w0.heap.size w0 w
theorem Tri.step {w0 w w' : World} {v5 v6 v7 : Value} {rs : List Rc} (h : Tri w0 w v5 v6 v7 rs) (hb : Below w.heap.size w w') : Tri w0 w' v5 v6 v7 rs :=
  ⟨h.l.below hb, h.e.below hb, h.a.below hb, h.d56, h.d57, h.d67, h.b.trans (hb.mono h.b.size)⟩
set_option maxHeartbeats 8000000 in
theorem lawRecBack {w : World} {a : Option Addr} {L c : Nat} {l : List Rc} {cut : Int} (hx : RRow w a L c l) (_hc : (Lit.int .i64 cut).wf = true) : Calls Try.prog 3 #[.slice a L c, .int .i64 cut] w fun e w' => e = .returned (.bool true) ∧ Below w.heap.size w w' := by
  clear _hc
  have hl := hx.recs.len
  have Hb := Lib.hid (Below.refl w.heap.size w)
  have Hx := Lib.hid hx; clear hx
  have Hl := Lib.hid hl; clear hl
  have hl0 := Hx.out.recs.le
  have hl1 := Hx.out.recs.max
  by_cases h60 : 60 < L
  · have d0 : decide ((60 : Int) < (L : Int)) = true := decide_eq_true (by omega)
    go_enter Try.func3, Try.ntmps3
    go_wp2_with fail
    refine alive_calls.mono ?_
    rintro e w1 ⟨rfl, bk⟩
    have hb := Hb.out.trans (bk.mono Hb.out.size)
    clear bk Hb
    have Hb := Lib.hid hb; clear hb
    go_wp2
    go_ret
    exact ⟨rfl, Hb.out⟩
  have d0 : decide ((60 : Int) < (L : Int)) = false := decide_eq_false (by omega)
  go_enter Try.func3, Try.ntmps3
  go_wp2_with fail
  refine alive_calls.mono ?_
  rintro e w1 ⟨rfl, bk⟩
  have hb := Hb.out.trans (bk.mono Hb.out.size)
  clear bk Hb
  obtain ⟨w2, hw2⟩ : ∃ w2, w2 = w1.alloc (.cells #[] 34) := ⟨_, rfl⟩
  have b2 : Below w1.heap.size w1 w2 := by rw [hw2]; exact (Below.refl _ _).alloc (Nat.le_refl _) _
  have s2 : w2.heap.size = w1.heap.size + 1 := by rw [hw2, World.size_alloc]
  have l2 : RcOwn w2 w1.heap.size (.slice (some ⟨w1.heap.size, 0, none⟩) 0 0) [] := by rw [hw2]; exact ROwn.made w1
  obtain ⟨w3, hw3⟩ : ∃ w3, w3 = w2.alloc (.cells #[.int .i64 0] 3) := ⟨_, rfl⟩
  have b3 : Below w2.heap.size w2 w3 := by rw [hw3]; exact (Below.refl _ _).alloc (Nat.le_refl _) _
  have s3 : w3.heap.size = w1.heap.size + 2 := by rw [hw3, World.size_alloc, s2]
  have e3 : Own w3 w2.heap.size 3 .i64 (.slice (some ⟨w2.heap.size, 0, none⟩) 1 1) [0] := by rw [hw3]; exact ⟨⟨rfl, .inr ⟨w2.heap.size, 1, #[.int .i64 0], rfl, Nat.le_refl _, heap_alloc_new w2 _, Nat.le_refl _, by unfold maxLen; omega, rfl, rfl⟩⟩, fun z hz => by rw [List.mem_singleton] at hz; subst hz; decide⟩
  obtain ⟨w4, hw4⟩ : ∃ w4, w4 = w3.alloc (.cells #[] 5) := ⟨_, rfl⟩
  have b4 : Below w3.heap.size w3 w4 := by rw [hw4]; exact (Below.refl _ _).alloc (Nat.le_refl _) _
  have a4 : Own w4 w3.heap.size 5 .u8 (.slice (some ⟨w3.heap.size, 0, none⟩) 0 0) [] := by rw [hw4]; exact ⟨World.ownsRow_made w3 #[] 0 (Nat.le_refl _) (by unfold maxLen; omega) rfl, fun z hz => by cases hz⟩
  rw [s2] at e3
  rw [s3] at a4
  have tr : Tri w w4 (.slice (some ⟨w1.heap.size, 0, none⟩) 0 0) (.slice (some ⟨w1.heap.size + 1, 0, none⟩) 1 1) (.slice (some ⟨w1.heap.size + 2, 0, none⟩) 0 0) [] :=
    ⟨((l2.below b3).below b4).mono hb.size, (e3.below b4).mono (by have := hb.size; omega), a4.mono (by have := hb.size; omega), (fun k hk e => by have h := Option.some.inj (show some w1.heap.size = some (w1.heap.size + 1) from hk.trans e.symm); omega), (fun k hk e => by have h := Option.some.inj (show some w1.heap.size = some (w1.heap.size + 2) from hk.trans e.symm); omega), (fun k hk e => by have h := Option.some.inj (show some (w1.heap.size + 1) = some (w1.heap.size + 2) from hk.trans e.symm); omega), ((hb.trans (b2.mono hb.size)).trans (b3.mono (by have := hb.size; omega))).trans (b4.mono (by have := hb.size; omega))⟩
  have Tr := Lib.hid tr; clear tr l2 e3 a4 b2 b3 b4 s2 s3 hb
  go_wp2_with fail
  rw [← hw2, ← hw3, ← hw4]
  clear hw2 hw3 hw4
  go_loopw [5, 6, 7, 8] (fun u5 u6 u7 v wr => ∃ j : Nat, j ≤ L ∧ v = .int .i64 j ∧ Tri w wr u5 u6 u7 (rights (l.take j))) (fun _ _ _ v _ => L - (intOf v).toNat)
  case atStart => exact ⟨0, Nat.zero_le _, rfl, Tr.out⟩
  case round =>
    clear Tr
    obtain ⟨j, hj, rfl, tr⟩ := hrel
    obtain ⟨wo, rfl⟩ : ∃ wo, wo = wr := ⟨_, rfl⟩
    by_cases hlt : j < L
    · have hjl : j < l.length := by rw [Hl.out]; exact hlt
      have hx2 := Hx.out.recs.keep tr.b
      obtain ⟨ga, oa, rfl⟩ := hx2.addr (by omega)
      have hrok := Hx.out.ok _ (List.getElem_mem hjl)
      have hrt := rights_take hjl
      have hcx := fun w' (hb' : Below w.heap.size w w') => (Hx.out.recs.keep hb').at hjl
      have hrl : (rights (l.take j)).length ≤ j := by
        have := List.length_filter_le rightRc (l.take j)
        rw [List.length_take] at this
        unfold rights
        omega
      obtain ⟨r, hr⟩ : ∃ r, r = l[j] := ⟨_, rfl⟩
      rw [← hr] at hcx hrok hrt
      clear hr hx2
      obtain ⟨rs, hrs⟩ : ∃ rs, rs = rights (l.take j) := ⟨_, rfl⟩
      rw [← hrs] at tr hrt hrl
      clear hrs
      have hen := fun w : World => Encode_calls (w := w) r hrok
      have hri := fun w : World => Right_calls (w := w) r
      have hel := enc_len24 r
      have hsl := encs_len rs
      have hone := encs_one rs r
      have hsn := ends_snoc rs r
      have hsl2 := encs_len (rs ++ [r])
      rw [List.length_append, List.length_singleton] at hsl2
      have hel2 := ends_len rs
      obtain ⟨R, hR⟩ : ∃ R, R = rightRc r := ⟨_, rfl⟩
      obtain ⟨E, hE⟩ : ∃ E, E = enc r := ⟨_, rfl⟩
      rw [← hR, ← hE] at hen
      rw [← hR] at hri hrt
      rw [← hE] at hel hone
      clear hR hE hrok
      have Hrt := Lib.hid hrt; clear hrt
      have Hcx := Lib.hid hcx; clear hcx
      obtain ⟨RS, hRS⟩ : ∃ RS, RS = rs ++ [r] := ⟨_, rfl⟩
      rw [← hRS] at hsl2 hone hsn
      obtain ⟨M, hM⟩ : ∃ M, M = (encs RS).length := ⟨_, rfl⟩
      rw [← hM] at hsl2 hsn
      have Hone := Lib.hid hone; clear hone
      have Hsn := Lib.hid hsn; clear hsn
      have HM := Lib.hid hM; clear hM
      have HRS := Lib.hid hRS; clear hRS
      obtain ⟨kd, t, m, k0, k1, k2, k3, ot, o, nt, n⟩ := r
      simp only [Rc.cells] at hen hri
      have Hen := Lib.hid hen; clear hen
      have Hri := Lib.hid hri; clear hri
      have Tr := Lib.hid tr; clear tr
      have i1 : (0 : Int) ≤ (j : Int) := by omega
      have i2 : (j : Int) < (L : Int) := by omega
      have hne : (R != R) = false := by simp
      have hcx := Hcx.out _ Tr.out.b
      have x0 := hcx 0 _ rfl
      have x1 := hcx 1 _ rfl
      have x2 := hcx 2 _ rfl
      have x3 := hcx 3 _ rfl
      have x4 := hcx 4 _ rfl
      have x5 := hcx 5 _ rfl
      have x6 := hcx 6 _ rfl
      have x7 := hcx 7 _ rfl
      have x8 := hcx 8 _ rfl
      have x9 := hcx 9 _ rfl
      have x10 := hcx 10 _ rfl
      simp only [rcF, Nat.add_zero] at x0 x1 x2 x3 x4 x5 x6 x7 x8 x9 x10
      clear hcx
      go_wp2_with fail
      clear x0 x1 x2 x3 x4 x5 x6 x7 x8 x9 x10
      refine (Hen.out _).mono ?_
      rintro e w4 ⟨v, rfl, own4, bk⟩
      have tr := Tr.out.step bk
      have lt5 := fun k hk => (Tr.out.l.lt k hk).2
      have lt6 := fun k hk => (Tr.out.e.block k hk).2
      have lt7 := fun k hk => (Tr.out.a.block k hk).2
      have n5 : Dj u5 v := fun k hk e => by have := lt5 k hk; have := (own4.block k e).1; omega
      have n6 : Dj u6 v := fun k hk e => by have := lt6 k hk; have := (own4.block k e).1; omega
      have n7 : Dj u7 v := fun k hk e => by have := lt7 k hk; have := (own4.block k e).1; omega
      clear Tr bk lt5 lt6 lt7
      have Tr := Lib.hid tr; clear tr
      have Own4 := Lib.hid own4; clear own4
      have hcx := Hcx.out _ Tr.out.b
      have x0 := hcx 0 _ rfl
      have x1 := hcx 1 _ rfl
      have x2 := hcx 2 _ rfl
      have x3 := hcx 3 _ rfl
      have x4 := hcx 4 _ rfl
      have x5 := hcx 5 _ rfl
      have x6 := hcx 6 _ rfl
      have x7 := hcx 7 _ rfl
      have x8 := hcx 8 _ rfl
      have x9 := hcx 9 _ rfl
      have x10 := hcx 10 _ rfl
      simp only [rcF, Nat.add_zero] at x0 x1 x2 x3 x4 x5 x6 x7 x8 x9 x10
      clear hcx
      go_wp2_with fail
      clear x0 x1 x2 x3 x4 x5 x6 x7 x8 x9 x10
      refine (Hri.out _).mono ?_
      rintro e w5 ⟨rfl, bk⟩
      have tr := Tr.out.step bk
      have own5 := Own4.out.below bk
      clear Tr bk Own4
      have Tr := Lib.hid tr; clear tr
      cases R with
      | false =>
        have hrt := Hrt.out
        rw [if_neg (by decide), List.append_nil] at hrt
        have Hrt2 := Lib.hid hrt; clear hrt Hrt own5
        go_wp2_with fail
        go_roundw
        case rel => exact ⟨j + 1, by omega, by go_num, by rw [Hrt2.out]; exact Tr.out⟩
        case measure => simp [intOf]; omega
      | true =>
        rw [if_pos rfl] at own5
        have Own5 := Lib.hid own5; clear own5
        have hrt := Hrt.out
        rw [if_pos rfl] at hrt
        have Hrt2 := Lib.hid hrt; clear hrt Hrt
        obtain ⟨va, vc, rfl⟩ := Tr.out.l.shape
        have hcx := Hcx.out _ Tr.out.b
        have x0 := hcx 0 _ rfl
        have x1 := hcx 1 _ rfl
        have x2 := hcx 2 _ rfl
        have x3 := hcx 3 _ rfl
        have x4 := hcx 4 _ rfl
        have x5 := hcx 5 _ rfl
        have x6 := hcx 6 _ rfl
        have x7 := hcx 7 _ rfl
        have x8 := hcx 8 _ rfl
        have x9 := hcx 9 _ rfl
        have x10 := hcx 10 _ rfl
        simp only [rcF, Nat.add_zero] at x0 x1 x2 x3 x4 x5 x6 x7 x8 x9 x10
        clear hcx
        obtain ⟨w6, hw6⟩ : ∃ w6, w6 = w5.alloc (.cells #[.int .i64 kd, .int .i64 t, .int .u16 m, .int .u8 k0, .int .u8 k1, .int .u8 k2, .int .u8 k3, .bool ot, .int .i64 o, .bool nt, .int .i64 n] 34) := ⟨_, rfl⟩
        have bk : Below w5.heap.size w5 w6 := by rw [hw6]; exact (Below.refl _ _).alloc (Nat.le_refl _) _
        have z6 : w6.heap[w5.heap.size]? = some (.cells #[.int .i64 kd, .int .i64 t, .int .u16 m, .int .u8 k0, .int .u8 k1, .int .u8 k2, .int .u8 k3, .bool ot, .int .i64 o, .bool nt, .int .i64 n] 34 (0, 0)) := by rw [hw6]; exact heap_alloc_new w5 _
        have tr := Tr.out.step bk
        have own6 := Own5.out.below bk
        clear Tr Own5 bk
        have Tr := Lib.hid tr; clear tr
        have Own6 := Lib.hid own6; clear own6
        go_wp2_with (with_reducible refine stop_builtin .append ?_)
        refine unpark ?_
        rw [← hw6]
        clear hw6 x0 x1 x2 x3 x4 x5 x6 x7 x8 x9 x10
        refine wpList_append_rec1 rcElem _ rfl _ _ rfl w.heap.size (.slice va rs.length vc) rs rfl Tr.out.l w5.heap.size 1 (by decide) (by decide) ⟨kd, t, m, k0, k1, k2, k3, ot, o, nt, n⟩ rfl z6 (fun j u hu => by rw [List.getElem?_toArray]; exact hu) (by omega) Tr.out.b.size ?_
        intro v5 w7 l7 g7 q7
        have e7 := Tr.out.e.keep (grown_keep g7 Tr.out.d56)
        have a7 := Tr.out.a.keep (grown_keep g7 Tr.out.d57)
        have o7 := Own6.out.keep (grown_keep g7 n5)
        have d56 := Tr.out.d56.next q7 (fun k hk => (Tr.out.e.block k hk).2)
        have d57 := Tr.out.d57.next q7 (fun k hk => (Tr.out.a.block k hk).2)
        have b7 := Tr.out.b.grown g7 Tr.out.b.size (fun k hk => (Tr.out.l.lt k hk).1)
        have d67 := Tr.out.d67
        clear Tr Own6 g7 q7 z6 n5 n6
        obtain ⟨xa, xc, rfl, -, -⟩ := a7.ints
        obtain ⟨ea, ec, rfl, ei, -⟩ := o7.ints
        have El := Lib.hid l7; clear l7
        have Ee := Lib.hid e7; clear e7
        have Ea := Lib.hid a7; clear a7
        have Ei := Lib.hid ei; clear ei o7 n7
        have D56 := Lib.hid d56; clear d56
        have D57 := Lib.hid d57; clear d57
        have D67 := Lib.hid d67; clear d67
        have B7 := Lib.hid b7; clear b7
        obtain ⟨pa, pc, rfl⟩ := El.out.shape
        go_wp2_with (with_reducible refine stop_builtin .append ?_)
        refine unpark ?_
        refine wpList_append_own u8Elem _ rfl _ _ rfl w.heap.size _ (encs rs) rfl Ea.out ea E.length ec E rfl Ei.out (by omega) B7.out.size ?_
        intro v7 w8 a8 g8 q8
        have l8 := El.out.keep (grown_keep g8 D57.out.symm)
        have e8 := Ee.out.keep (grown_keep g8 D67.out.symm)
        have d57 := (D57.out.symm.next q8 (fun k hk => (El.out.lt k hk).2)).symm
        have d67 := (D67.out.symm.next q8 (fun k hk => (Ee.out.block k hk).2)).symm
        have b8 := B7.out.grown g8 B7.out.size (fun k hk => (Ea.out.block k hk).1)
        rw [← Hone.out] at a8
        clear El Ee Ea Ei D57 D67 B7 g8 q8
        obtain ⟨ya, yc, rfl, -, -⟩ := a8.ints
        rw [← HM.out] at a8 d57 d67 ⊢
        obtain ⟨za, zc, rfl, -, -⟩ := e8.ints
        rw [hel2] at e8 d67 D56 ⊢
        obtain ⟨w9, hw9⟩ : ∃ w9, w9 = w8.alloc (.cells #[.int .i64 (M : Nat)] 3) := ⟨_, rfl⟩
        have bk : Below w8.heap.size w8 w9 := by rw [hw9]; exact (Below.refl _ _).alloc (Nat.le_refl _) _
        have i9 : Ints w9 .i64 (some ⟨w8.heap.size, 0, none⟩) 1 1 [(M : Int)] := by
          rw [hw9]
          exact ints_alloc [(M : Int)] rfl rfl (by decide) (fun z hz => by rw [List.mem_singleton] at hz; subst hz; exact wf_i64' (by omega))
        have l9 := l8.below bk
        have e9 := e8.below bk
        have a9 := a8.below bk
        have b9 := b8.trans (bk.mono b8.size)
        clear l8 e8 a8 b8 bk
        have El := Lib.hid l9; clear l9
        have Ee := Lib.hid e9; clear e9
        have Ea := Lib.hid a9; clear a9
        have Ei := Lib.hid i9; clear i9
        have D57 := Lib.hid d57; clear d57
        have D67 := Lib.hid d67; clear d67
        have B9 := Lib.hid b9; clear b9
        go_wp2_with (with_reducible refine stop_builtin .append ?_)
        refine unpark ?_
        rw [← hw9]
        clear hw9
        refine wpList_append_own i64Elem _ rfl _ _ rfl w.heap.size _ (endsOf rs) rfl Ee.out _ 1 1 [(M : Int)] rfl Ei.out (by omega) B9.out.size ?_
        intro v6 w10 e10 g10 q10
        have l10 := El.out.keep (grown_keep g10 D56.out.symm)
        have a10 := Ea.out.keep (grown_keep g10 D67.out)
        have d56 := (D56.out.symm.next q10 (fun k hk => (El.out.lt k hk).2)).symm
        have d67 := D67.out.next q10 (fun k hk => (Ea.out.block k hk).2)
        have b10 := B9.out.grown g10 B9.out.size (fun k hk => (Ee.out.block k hk).1)
        have d57 := D57.out
        rw [← Hsn.out] at e10
        clear El Ee Ea Ei D56 D57 D67 B9 g10 q10
        have tr : Tri w w10 (.slice pa (rs ++ [(⟨kd, t, m, k0, k1, k2, k3, ot, o, nt, n⟩ : Rc)]).length pc) v6 (.slice ya M yc) (rs ++ [⟨kd, t, m, k0, k1, k2, k3, ot, o, nt, n⟩]) := ⟨l10, by rw [← HRS.out]; exact e10, by rw [← HRS.out]; exact a10, d56, d57, d67, b10⟩
        have Tr := Lib.hid tr; clear tr l10 e10 a10 d56 d57 d67 b10
        obtain ⟨za', zc', rfl⟩ : ∃ a c, v6 = .slice a (endsOf (rs ++ [(⟨kd, t, m, k0, k1, k2, k3, ot, o, nt, n⟩ : Rc)])).length c := by
          obtain ⟨a, c, e, -, -⟩ := Tr.out.e.ints
          exact ⟨a, c, e⟩
        go_wp2_with fail
        go_roundw
        case rel => exact ⟨j + 1, by omega, by go_num, by rw [Hrt2.out]; have h := Tr.out; rw [List.length_append, List.length_singleton] at h; exact h⟩
        case measure => simp [intOf]; omega
    · obtain rfl : j = L := by omega
      have e : l.take j = l := by rw [← Hl.out, List.take_length]
      rw [e] at tr
      have hrr : ∀ r ∈ rights l, RightRc r ∧ r.ok := fun r hr => by
        obtain ⟨h1, h2⟩ := List.mem_filter.1 hr
        exact ⟨of_decide_eq_true h2, Hx.out.ok r h1⟩
      have hnl : (rights l).length ≤ j := by
        have := List.length_filter_le rightRc l
        have := Hl.out
        unfold rights
        omega
      generalize rights l = rs at *
      clear e
      obtain ⟨n, hn⟩ : ∃ n, n = rs.length := ⟨_, rfl⟩
      have hsl := encs_len rs
      obtain ⟨M, hM⟩ : ∃ M, M = (encs rs).length := ⟨_, rfl⟩
      rw [← hM] at hsl
      rw [← hn] at hsl hnl
      obtain ⟨la, lc, rfl, lr, -⟩ := tr.l.recs
      obtain ⟨ea, ec, rfl, ei, -⟩ := tr.e.ints
      obtain ⟨aa, ac, rfl, ai, -⟩ := tr.a.ints
      rw [ends_len, ← hn] at ei ⊢
      rw [← hM] at ai ⊢
      rw [← hn] at lr
      obtain ⟨ge, oe, rfl, hec⟩ := ei.cell (by omega)
      have ham := ai.max
      have hale := ai.le
      have hem := ei.max
      have hele := ei.le
      have hlm := lr.max
      have hlle := lr.le
      have Hec := Lib.hid hec; clear hec ei
      have Hai := Lib.hid ai; clear ai
      have Hlr := Lib.hid lr; clear lr
      have Hrr := Lib.hid hrr; clear hrr
      have Hn := Lib.hid hn; clear hn
      have HM := Lib.hid hM; clear hM
      have Hbb := Lib.hid tr.b; clear tr
      by_cases c0 : cut < 0
      · have d1 : decide (cut < 0) = true := decide_eq_true c0
        obtain ⟨C, rfl⟩ : ∃ C, C = M := ⟨_, rfl⟩
        have hCM : C ≤ C := Nat.le_refl _
        go_wp2_with fail
        go_loopw [11] (fun v wr => ∃ k : Nat, k ≤ n ∧ v = .int .i64 k ∧ (encs (rs.take k)).length ≤ C ∧ wr = wo) (fun v _ => n - (intOf v).toNat)
        case atStart => exact ⟨0, Nat.zero_le _, rfl, Nat.zero_le _, rfl⟩
        case round =>
          obtain ⟨k, hk, rfl, hkc, hwr⟩ := hrel
          obtain ⟨w5, rfl⟩ : ∃ w5, w5 = wr := ⟨_, rfl⟩
          subst hwr
          have y1 : k < n → w5.cell? ⟨ge, oe + (k + 1), none⟩ = some (.int .i64 ((encs (rs.take (k + 1))).length : Nat)) := fun h => by rw [Hec.out (k + 1) (by omega), ends_at rs (by have := Hn.out; omega)]
          have y0 : w5.cell? ⟨ge, oe + k, none⟩ = some (.int .i64 ((encs (rs.take k)).length : Nat)) := by rw [Hec.out k (by omega), ends_at rs (by have := Hn.out; omega)]
          have fin : (k < n → C < (encs (rs.take (k + 1))).length) → allR ((encs rs).take C) = (rs.take k, (encs (rs.take k)).length) := fun h => cut_law Hrr.out (by have := Hn.out; omega) hkc (fun h' => h (by have := Hn.out; omega))
          have j0 : (0 : Int) ≤ (k : Int) := by omega
          have j1 : (0 : Int) ≤ (k : Int) + 1 := by omega
          have j3 : (k : Int) < ((n + 1 : Nat) : Int) := by omega
          by_cases hgo : k < n ∧ (encs (rs.take (k + 1))).length ≤ C
          · obtain ⟨hkn, hle⟩ := hgo
            have y1' := y1 hkn
            have j2 : (k : Int) < (n : Int) := by omega
            have j4 : (k : Int) + 1 < ((n + 1 : Nat) : Int) := by omega
            have HLE := Lib.hid hle
            obtain ⟨S1, hS1⟩ : ∃ S, S = (encs (rs.take (k + 1))).length := ⟨_, rfl⟩
            rw [← hS1] at y1' hle
            clear hS1
            have j5 : (S1 : Int) ≤ (C : Int) := by omega
            have j6 : decide (S1 ≤ C) = true := decide_eq_true hle
            clear y0 y1 fin hle
            go_wp2_with fail
            go_roundw
            case rel => exact ⟨k + 1, by omega, by go_num, HLE.out, trivial⟩
            case measure => simp [intOf]; omega
          · have hfin := fin (fun h => by have : ¬ (encs (rs.take (k + 1))).length ≤ C := fun h' => hgo ⟨h, h'⟩; omega)
            have hall := All_calls (Hai.out.take C hCM) (by omega)
            rw [hfin] at hall
            have HAl := Lib.hid hall; clear hall fin hfin
            obtain ⟨SK, hSK⟩ : ∃ SK, SK = (encs (rs.take k)).length := ⟨_, rfl⟩
            rw [← hSK] at y0 HAl hkc
            clear hSK
            have hq : (SK != SK) = false := by simp
            have k1 : (k : Int) ≤ (lc : Int) := by omega
            have k2 : (C : Int) ≤ (ac : Int) := by omega
            have k3 : (0 : Int) ≤ (C : Int) := by omega
            by_cases hkn : k < n
            · have y1' := y1 hkn
              have hS : ¬ (encs (rs.take (k + 1))).length ≤ C := fun h' => hgo ⟨hkn, h'⟩
              generalize (encs (rs.take (k + 1))).length = S1 at *
              have j2 : (k : Int) < (n : Int) := by omega
              have j4 : (k : Int) + 1 < ((n + 1 : Nat) : Int) := by omega
              have j5 : decide ((S1 : Int) ≤ (C : Int)) = false := decide_eq_false (by omega)
              have j6 : decide (S1 ≤ C) = false := decide_eq_false hS
              clear hgo y1
              go_wp2_with fail
              refine HAl.out.mono ?_
              rintro e w6 ⟨v, rfl, got, bk⟩
              obtain ⟨ga', gc', rfl, gr, -⟩ := got.recs
              have hkl : (rs.take k).length = k := by rw [List.length_take]; have := Hn.out; omega
              rw [hkl] at gr ⊢
              have lr := (Hlr.out.keep bk).upto (show k ≤ n by omega)
              have hbw := Hbb.out.trans (bk.mono Hbb.out.size)
              have yk := (bk.cell (World.block_lt_of_cell? w5 _ y0)).trans y0
              clear got bk HAl hkl
              have Gr := Lib.hid gr; clear gr
              have Lr := Lib.hid lr; clear lr
              have HB := Lib.hid hbw; clear hbw
              go_wp2_with fail
              refine (SameRecs_calls Gr.out Lr.out rfl).mono ?_
              rintro e w7 ⟨rfl, nn, hnn⟩
              have bk : Below w6.heap.size w6 w7 := by rw [hnn]; exact Below.drewN (Below.refl _ _) nn
              have y0 := (bk.cell (World.block_lt_of_cell? w6 _ yk)).trans yk
              have hb := HB.out.trans (bk.mono HB.out.size)
              clear bk hnn yk HB
              have HB := Lib.hid hb; clear hb
              go_wp2_with fail
              go_ret
              exact ⟨rfl, HB.out⟩
            · have j2 : decide ((k : Int) < (n : Int)) = false := decide_eq_false (by omega)
              have j4 : decide (k < n) = false := decide_eq_false hkn
              clear hgo y1
              go_wp2_with fail
              refine HAl.out.mono ?_
              rintro e w6 ⟨v, rfl, got, bk⟩
              obtain ⟨ga', gc', rfl, gr, -⟩ := got.recs
              have hkl : (rs.take k).length = k := by rw [List.length_take]; have := Hn.out; omega
              rw [hkl] at gr ⊢
              have lr := (Hlr.out.keep bk).upto (show k ≤ n by omega)
              have hbw := Hbb.out.trans (bk.mono Hbb.out.size)
              have yk := (bk.cell (World.block_lt_of_cell? w5 _ y0)).trans y0
              clear got bk HAl hkl
              have Gr := Lib.hid gr; clear gr
              have Lr := Lib.hid lr; clear lr
              have HB := Lib.hid hbw; clear hbw
              go_wp2_with fail
              refine (SameRecs_calls Gr.out Lr.out rfl).mono ?_
              rintro e w7 ⟨rfl, nn, hnn⟩
              have bk : Below w6.heap.size w6 w7 := by rw [hnn]; exact Below.drewN (Below.refl _ _) nn
              have y0 := (bk.cell (World.block_lt_of_cell? w6 _ yk)).trans yk
              have hb := HB.out.trans (bk.mono HB.out.size)
              clear bk hnn yk HB
              have HB := Lib.hid hb; clear hb
              go_wp2_with fail
              go_ret
              exact ⟨rfl, HB.out⟩
      have d1 : decide (cut < 0) = false := decide_eq_false c0
      by_cases c1 : (M : Int) < cut
      · have d2 : decide ((M : Int) < cut) = true := decide_eq_true c1
        obtain ⟨C, rfl⟩ : ∃ C, C = M := ⟨_, rfl⟩
        have hCM : C ≤ C := Nat.le_refl _
        go_wp2_with fail
        go_loopw [11] (fun v wr => ∃ k : Nat, k ≤ n ∧ v = .int .i64 k ∧ (encs (rs.take k)).length ≤ C ∧ wr = wo) (fun v _ => n - (intOf v).toNat)
        case atStart => exact ⟨0, Nat.zero_le _, rfl, Nat.zero_le _, rfl⟩
        case round =>
          obtain ⟨k, hk, rfl, hkc, hwr⟩ := hrel
          obtain ⟨w5, rfl⟩ : ∃ w5, w5 = wr := ⟨_, rfl⟩
          subst hwr
          have y1 : k < n → w5.cell? ⟨ge, oe + (k + 1), none⟩ = some (.int .i64 ((encs (rs.take (k + 1))).length : Nat)) := fun h => by rw [Hec.out (k + 1) (by omega), ends_at rs (by have := Hn.out; omega)]
          have y0 : w5.cell? ⟨ge, oe + k, none⟩ = some (.int .i64 ((encs (rs.take k)).length : Nat)) := by rw [Hec.out k (by omega), ends_at rs (by have := Hn.out; omega)]
          have fin : (k < n → C < (encs (rs.take (k + 1))).length) → allR ((encs rs).take C) = (rs.take k, (encs (rs.take k)).length) := fun h => cut_law Hrr.out (by have := Hn.out; omega) hkc (fun h' => h (by have := Hn.out; omega))
          have j0 : (0 : Int) ≤ (k : Int) := by omega
          have j1 : (0 : Int) ≤ (k : Int) + 1 := by omega
          have j3 : (k : Int) < ((n + 1 : Nat) : Int) := by omega
          by_cases hgo : k < n ∧ (encs (rs.take (k + 1))).length ≤ C
          · obtain ⟨hkn, hle⟩ := hgo
            have y1' := y1 hkn
            have j2 : (k : Int) < (n : Int) := by omega
            have j4 : (k : Int) + 1 < ((n + 1 : Nat) : Int) := by omega
            have HLE := Lib.hid hle
            obtain ⟨S1, hS1⟩ : ∃ S, S = (encs (rs.take (k + 1))).length := ⟨_, rfl⟩
            rw [← hS1] at y1' hle
            clear hS1
            have j5 : (S1 : Int) ≤ (C : Int) := by omega
            have j6 : decide (S1 ≤ C) = true := decide_eq_true hle
            clear y0 y1 fin hle
            go_wp2_with fail
            go_roundw
            case rel => exact ⟨k + 1, by omega, by go_num, HLE.out, trivial⟩
            case measure => simp [intOf]; omega
          · have hfin := fin (fun h => by have : ¬ (encs (rs.take (k + 1))).length ≤ C := fun h' => hgo ⟨h, h'⟩; omega)
            have hall := All_calls (Hai.out.take C hCM) (by omega)
            rw [hfin] at hall
            have HAl := Lib.hid hall; clear hall fin hfin
            obtain ⟨SK, hSK⟩ : ∃ SK, SK = (encs (rs.take k)).length := ⟨_, rfl⟩
            rw [← hSK] at y0 HAl hkc
            clear hSK
            have hq : (SK != SK) = false := by simp
            have k1 : (k : Int) ≤ (lc : Int) := by omega
            have k2 : (C : Int) ≤ (ac : Int) := by omega
            have k3 : (0 : Int) ≤ (C : Int) := by omega
            by_cases hkn : k < n
            · have y1' := y1 hkn
              have hS : ¬ (encs (rs.take (k + 1))).length ≤ C := fun h' => hgo ⟨hkn, h'⟩
              generalize (encs (rs.take (k + 1))).length = S1 at *
              have j2 : (k : Int) < (n : Int) := by omega
              have j4 : (k : Int) + 1 < ((n + 1 : Nat) : Int) := by omega
              have j5 : decide ((S1 : Int) ≤ (C : Int)) = false := decide_eq_false (by omega)
              have j6 : decide (S1 ≤ C) = false := decide_eq_false hS
              clear hgo y1
              go_wp2_with fail
              refine HAl.out.mono ?_
              rintro e w6 ⟨v, rfl, got, bk⟩
              obtain ⟨ga', gc', rfl, gr, -⟩ := got.recs
              have hkl : (rs.take k).length = k := by rw [List.length_take]; have := Hn.out; omega
              rw [hkl] at gr ⊢
              have lr := (Hlr.out.keep bk).upto (show k ≤ n by omega)
              have hbw := Hbb.out.trans (bk.mono Hbb.out.size)
              have yk := (bk.cell (World.block_lt_of_cell? w5 _ y0)).trans y0
              clear got bk HAl hkl
              have Gr := Lib.hid gr; clear gr
              have Lr := Lib.hid lr; clear lr
              have HB := Lib.hid hbw; clear hbw
              go_wp2_with fail
              refine (SameRecs_calls Gr.out Lr.out rfl).mono ?_
              rintro e w7 ⟨rfl, nn, hnn⟩
              have bk : Below w6.heap.size w6 w7 := by rw [hnn]; exact Below.drewN (Below.refl _ _) nn
              have y0 := (bk.cell (World.block_lt_of_cell? w6 _ yk)).trans yk
              have hb := HB.out.trans (bk.mono HB.out.size)
              clear bk hnn yk HB
              have HB := Lib.hid hb; clear hb
              go_wp2_with fail
              go_ret
              exact ⟨rfl, HB.out⟩
            · have j2 : decide ((k : Int) < (n : Int)) = false := decide_eq_false (by omega)
              have j4 : decide (k < n) = false := decide_eq_false hkn
              clear hgo y1
              go_wp2_with fail
              refine HAl.out.mono ?_
              rintro e w6 ⟨v, rfl, got, bk⟩
              obtain ⟨ga', gc', rfl, gr, -⟩ := got.recs
              have hkl : (rs.take k).length = k := by rw [List.length_take]; have := Hn.out; omega
              rw [hkl] at gr ⊢
              have lr := (Hlr.out.keep bk).upto (show k ≤ n by omega)
              have hbw := Hbb.out.trans (bk.mono Hbb.out.size)
              have yk := (bk.cell (World.block_lt_of_cell? w5 _ y0)).trans y0
              clear got bk HAl hkl
              have Gr := Lib.hid gr; clear gr
              have Lr := Lib.hid lr; clear lr
              have HB := Lib.hid hbw; clear hbw
              go_wp2_with fail
              refine (SameRecs_calls Gr.out Lr.out rfl).mono ?_
              rintro e w7 ⟨rfl, nn, hnn⟩
              have bk : Below w6.heap.size w6 w7 := by rw [hnn]; exact Below.drewN (Below.refl _ _) nn
              have y0 := (bk.cell (World.block_lt_of_cell? w6 _ yk)).trans yk
              have hb := HB.out.trans (bk.mono HB.out.size)
              clear bk hnn yk HB
              have HB := Lib.hid hb; clear hb
              go_wp2_with fail
              go_ret
              exact ⟨rfl, HB.out⟩
      obtain ⟨C, rfl⟩ : ∃ C : Nat, cut = (C : Int) := ⟨cut.toNat, by omega⟩
      have d2 : decide ((M : Int) < (C : Int)) = false := decide_eq_false c1
      have d3 : decide (M < C) = false := decide_eq_false (by omega)
      have hCM : C ≤ M := by omega
      clear c0 c1
      go_wp2_with fail
      go_loopw [11] (fun v wr => ∃ k : Nat, k ≤ n ∧ v = .int .i64 k ∧ (encs (rs.take k)).length ≤ C ∧ wr = wo) (fun v _ => n - (intOf v).toNat)
      case atStart => exact ⟨0, Nat.zero_le _, rfl, Nat.zero_le _, rfl⟩
      case round =>
        obtain ⟨k, hk, rfl, hkc, hwr⟩ := hrel
        obtain ⟨w5, rfl⟩ : ∃ w5, w5 = wr := ⟨_, rfl⟩
        subst hwr
        have y1 : k < n → w5.cell? ⟨ge, oe + (k + 1), none⟩ = some (.int .i64 ((encs (rs.take (k + 1))).length : Nat)) := fun h => by rw [Hec.out (k + 1) (by omega), ends_at rs (by have := Hn.out; omega)]
        have y0 : w5.cell? ⟨ge, oe + k, none⟩ = some (.int .i64 ((encs (rs.take k)).length : Nat)) := by rw [Hec.out k (by omega), ends_at rs (by have := Hn.out; omega)]
        have fin : (k < n → C < (encs (rs.take (k + 1))).length) → allR ((encs rs).take C) = (rs.take k, (encs (rs.take k)).length) := fun h => cut_law Hrr.out (by have := Hn.out; omega) hkc (fun h' => h (by have := Hn.out; omega))
        have j0 : (0 : Int) ≤ (k : Int) := by omega
        have j1 : (0 : Int) ≤ (k : Int) + 1 := by omega
        have j3 : (k : Int) < ((n + 1 : Nat) : Int) := by omega
        by_cases hgo : k < n ∧ (encs (rs.take (k + 1))).length ≤ C
        · obtain ⟨hkn, hle⟩ := hgo
          have y1' := y1 hkn
          have j2 : (k : Int) < (n : Int) := by omega
          have j4 : (k : Int) + 1 < ((n + 1 : Nat) : Int) := by omega
          have HLE := Lib.hid hle
          obtain ⟨S1, hS1⟩ : ∃ S, S = (encs (rs.take (k + 1))).length := ⟨_, rfl⟩
          rw [← hS1] at y1' hle
          clear hS1
          have j5 : (S1 : Int) ≤ (C : Int) := by omega
          have j6 : decide (S1 ≤ C) = true := decide_eq_true hle
          clear y0 y1 fin hle
          go_wp2_with fail
          go_roundw
          case rel => exact ⟨k + 1, by omega, by go_num, HLE.out, trivial⟩
          case measure => simp [intOf]; omega
        · have hfin := fin (fun h => by have : ¬ (encs (rs.take (k + 1))).length ≤ C := fun h' => hgo ⟨h, h'⟩; omega)
          have hall := All_calls (Hai.out.take C hCM) (by omega)
          rw [hfin] at hall
          have HAl := Lib.hid hall; clear hall fin hfin
          obtain ⟨SK, hSK⟩ : ∃ SK, SK = (encs (rs.take k)).length := ⟨_, rfl⟩
          rw [← hSK] at y0 HAl hkc
          clear hSK
          have hq : (SK != SK) = false := by simp
          have k1 : (k : Int) ≤ (lc : Int) := by omega
          have k2 : (C : Int) ≤ (ac : Int) := by omega
          have k3 : (0 : Int) ≤ (C : Int) := by omega
          by_cases hkn : k < n
          · have y1' := y1 hkn
            have hS : ¬ (encs (rs.take (k + 1))).length ≤ C := fun h' => hgo ⟨hkn, h'⟩
            generalize (encs (rs.take (k + 1))).length = S1 at *
            have j2 : (k : Int) < (n : Int) := by omega
            have j4 : (k : Int) + 1 < ((n + 1 : Nat) : Int) := by omega
            have j5 : decide ((S1 : Int) ≤ (C : Int)) = false := decide_eq_false (by omega)
            have j6 : decide (S1 ≤ C) = false := decide_eq_false hS
            clear hgo y1
            go_wp2_with fail
            refine HAl.out.mono ?_
            rintro e w6 ⟨v, rfl, got, bk⟩
            obtain ⟨ga', gc', rfl, gr, -⟩ := got.recs
            have hkl : (rs.take k).length = k := by rw [List.length_take]; have := Hn.out; omega
            rw [hkl] at gr ⊢
            have lr := (Hlr.out.keep bk).upto (show k ≤ n by omega)
            have hbw := Hbb.out.trans (bk.mono Hbb.out.size)
            have yk := (bk.cell (World.block_lt_of_cell? w5 _ y0)).trans y0
            clear got bk HAl hkl
            have Gr := Lib.hid gr; clear gr
            have Lr := Lib.hid lr; clear lr
            have HB := Lib.hid hbw; clear hbw
            go_wp2_with fail
            refine (SameRecs_calls Gr.out Lr.out rfl).mono ?_
            rintro e w7 ⟨rfl, nn, hnn⟩
            have bk : Below w6.heap.size w6 w7 := by rw [hnn]; exact Below.drewN (Below.refl _ _) nn
            have y0 := (bk.cell (World.block_lt_of_cell? w6 _ yk)).trans yk
            have hb := HB.out.trans (bk.mono HB.out.size)
            clear bk hnn yk HB
            have HB := Lib.hid hb; clear hb
            go_wp2_with fail
            go_ret
            exact ⟨rfl, HB.out⟩
          · have j2 : decide ((k : Int) < (n : Int)) = false := decide_eq_false (by omega)
            have j4 : decide (k < n) = false := decide_eq_false hkn
            clear hgo y1
            go_wp2_with fail
            refine HAl.out.mono ?_
            rintro e w6 ⟨v, rfl, got, bk⟩
            obtain ⟨ga', gc', rfl, gr, -⟩ := got.recs
            have hkl : (rs.take k).length = k := by rw [List.length_take]; have := Hn.out; omega
            rw [hkl] at gr ⊢
            have lr := (Hlr.out.keep bk).upto (show k ≤ n by omega)
            have hbw := Hbb.out.trans (bk.mono Hbb.out.size)
            have yk := (bk.cell (World.block_lt_of_cell? w5 _ y0)).trans y0
            clear got bk HAl hkl
            have Gr := Lib.hid gr; clear gr
            have Lr := Lib.hid lr; clear lr
            have HB := Lib.hid hbw; clear hbw
            go_wp2_with fail
            refine (SameRecs_calls Gr.out Lr.out rfl).mono ?_
            rintro e w7 ⟨rfl, nn, hnn⟩
            have bk : Below w6.heap.size w6 w7 := by rw [hnn]; exact Below.drewN (Below.refl _ _) nn
            have y0 := (bk.cell (World.block_lt_of_cell? w6 _ yk)).trans yk
            have hb := HB.out.trans (bk.mono HB.out.size)
            clear bk hnn yk HB
            have HB := Lib.hid hb; clear hb
            go_wp2_with fail
            go_ret
            exact ⟨rfl, HB.out⟩
end Go.Proofs.Ytiaocfeafkgbaaa
