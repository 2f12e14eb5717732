/- SameMsgs; two links; what a call says hangs on its own place alone. -/
import Derived.Test.YtckahkpikjhkmaaLinkD
namespace Go.Proofs.Ytckahkpikjhkmaa
open Go.RowKit

set_option maxHeartbeats 1000000 in
theorem SameMsgs_calls {a1 a2 : Option Addr} {n1 n2 c1 c2 : Nat} {xs : List Msg} {w : World} (hx : Recs msgF w a1 n1 c1 xs) (hy : Recs msgF w a2 n2 c2 xs) :
    Calls Try.prog 19 #[.slice a1 n1 c1, .slice a2 n2 c2] w fun e w' => e = .returned (.bool true) ∧ ∃ n, w' = w.drewN n := by
  have hl1 := hx.len
  have hl2 := hy.len
  have m1 := hx.max
  have p1 := hx.le
  obtain rfl : n1 = n2 := by omega
  have hne : ((n1 : Int) != (n1 : Int)) = false := by simp
  have Hl1 := Lib.hid hl1; clear hl1 hl2
  have Hx := Lib.hid hx; clear hx
  have Hy := Lib.hid hy; clear hy
  go_enter Try.func19, Try.ntmps19
  go_wp2_with fail
  go_loopw [5] (fun i wr => ∃ k : Nat, k ≤ n1 ∧ i = .int .i64 k ∧ ∃ n, wr = w.drewN n) (fun i _ => n1 - (intOf i).toNat)
  case atStart => exact ⟨0, by omega, rfl, 0, rfl⟩
  case round =>
    obtain ⟨k, hk, rfl, nd, rfl⟩ := hrel
    by_cases hlt : k < n1
    · have hx := Hx.out
      have hy := Hy.out
      obtain ⟨b1, o1, rfl⟩ := hx.addr (by omega)
      obtain ⟨b2, o2, rfl⟩ := hy.addr (by omega)
      have hkx : k < xs.length := by rw [Hl1.out]; exact hlt
      have hcx := hx.at hkx
      have hcy := hy.at hkx
      obtain ⟨m, hm⟩ : ∃ m, m = xs[k] := ⟨_, rfl⟩
      rw [← hm] at hcx hcy
      have hq := fun w => msg_neq w m m
      have hg := fun x y w => msg_guard .neq x y m m w
      clear hm hx hy
      have x0 := hcx 0 _ rfl
      have x1 := hcx 1 _ rfl
      have x2 := hcx 2 _ rfl
      have x3 := hcx 3 _ rfl
      have y0 := hcy 0 _ rfl
      have y1 := hcy 1 _ rfl
      have y2 := hcy 2 _ rfl
      have y3 := hcy 3 _ rfl
      obtain ⟨m1', m2', m3', m4'⟩ := m
      simp only [msgF, Nat.add_zero, Msg.kind, Msg.part, Msg.tx, Msg.what] at x0 x1 x2 x3 y0 y1 y2 y3
      simp only [Msg.cells, Msg.kind, Msg.part, Msg.tx, Msg.what, decide_true, Bool.not_true] at hq hg
      clear hcx hcy
      have i1 : (0 : Int) ≤ (k : Int) := by omega
      have i2 : (k : Int) < (n1 : Int) := by omega
      go_wp2_with fail
      go_quiet (fail)
      go_wp2_with fail
      go_roundw
      case rel => exact ⟨k + 1, by omega, by go_num, _, rfl⟩
      case measure => simp [intOf]; omega
    · obtain rfl : k = n1 := by omega
      go_wp2
      go_ret
      exact ⟨rfl, _, rfl⟩

section
variable {n : Nat} {ls ls1 ls2 : Pla → List Msg} {k k' : Pla}
theorem put_own (h : ls1 k = ls2 k) (xs : List Msg) : (putN n ls1 k xs).1 = (putN n ls2 k xs).1 ∧ (putN n ls1 k xs).2.1 = (putN n ls2 k xs).2.1 ∧ (putN n ls1 k xs).2.2 k = (putN n ls2 k xs).2.2 k := by
  unfold putN
  by_cases hk : k ∈ keysOf n
  · simp only [if_pos hk, upd_same, h]
    exact ⟨by first | trivial | rfl, by first | trivial | rfl, by first | trivial | rfl⟩
  · simp only [if_neg hk]
    exact ⟨by first | trivial | rfl, by first | trivial | rfl, h⟩
theorem take_own (h : ls1 k = ls2 k) (i : Int) (s : Bool) : (takeN n ls1 k i s).1 = (takeN n ls2 k i s).1 ∧ (takeN n ls1 k i s).2.1 = (takeN n ls2 k i s).2.1 ∧ (takeN n ls1 k i s).2.2 k = (takeN n ls2 k i s).2.2 k := by
  unfold takeN
  by_cases hk : k ∈ keysOf n
  · simp only [if_pos hk, h]
    split
    · cases s
      · simp [upd_same]
      · exact ⟨by first | trivial | rfl, by first | trivial | rfl, h⟩
    · exact ⟨by first | trivial | rfl, by first | trivial | rfl, h⟩
  · simp only [if_neg hk]
    exact ⟨by first | trivial | rfl, by first | trivial | rfl, h⟩
theorem clear_own (h : ls1 k = ls2 k) : (clearN n ls1 k).1 = (clearN n ls2 k).1 ∧ (clearN n ls1 k).2 k = (clearN n ls2 k).2 k := by
  unfold clearN
  by_cases hk : k ∈ keysOf n
  · simp only [if_pos hk, upd_same, h]
    exact ⟨by first | trivial | rfl, by first | trivial | rfl⟩
  · simp only [if_neg hk]
    exact ⟨by first | trivial | rfl, h⟩
theorem put_other (hk : k' ≠ k) (xs : List Msg) : (putN n ls k' xs).2.2 k = ls k := by
  unfold putN
  split
  · exact upd_other _ _ fun e => hk e.symm
  · rfl
theorem take_other (hk : k' ≠ k) (i : Int) (s : Bool) : (takeN n ls k' i s).2.2 k = ls k := by
  unfold takeN
  split
  · split
    · cases s
      · exact upd_other _ _ fun e => hk e.symm
      · rfl
    · rfl
  · rfl
theorem clear_other (hk : k' ≠ k) : (clearN n ls k').2 k = ls k := by
  unfold clearN
  split
  · exact upd_other _ _ fun e => hk e.symm
  · rfl
end

/-- Two links, and a block aside. -/
structure Duo (w0 w : World) (b1 b2 : Nat) (F1 F2 : Nat → Prop) (n : Nat) (ls1 ls2 : Pla → List Msg) : Prop where
  a : Lk w0 w b1 F1 n ls1
  b : Lk w0 w b2 F2 n ls2
  ap : ∀ k, F1 k → ¬ F2 k
structure Aside2 (w : World) (g : Nat) (o : Obj) (F1 F2 : Nat → Prop) : Prop where
  is : w.heap[g]? = some o
  o1 : ¬ F1 g
  o2 : ¬ F2 g
section
variable {w0 w w' : World} {b1 b2 g n : Nat} {o : Obj} {F1 F2 : Nat → Prop} {ls1 ls2 ls' : Pla → List Msg}
theorem Duo.step (h : Duo w0 w b1 b2 F1 F2 n ls1 ls2) (hb : Below w.heap.size w w') : Duo w0 w' b1 b2 F1 F2 n ls1 ls2 := ⟨h.a.step hb, h.b.step hb, h.ap⟩
theorem Duo.left (h : Duo w0 w b1 b2 F1 F2 n ls1 ls2) (hd : Lk w0 w' b1 (grownF F1 w w') n ls') (hm : Mod F1 w w') : Duo w0 w' b1 b2 (grownF F1 w w') F2 n ls' ls2 :=
  ⟨hd, h.b.aside hm (fun k h2 h1 => h.ap k h1 h2) (fun k hk => (h.a.low k hk).1), fun k hk h2 => hk.elim (fun h1 => h.ap k h1 h2) fun h1 => by have := (h.b.low k h2).2; omega⟩
theorem Duo.right (h : Duo w0 w b1 b2 F1 F2 n ls1 ls2) (hd : Lk w0 w' b2 (grownF F2 w w') n ls') (hm : Mod F2 w w') : Duo w0 w' b1 b2 F1 (grownF F2 w w') n ls1 ls' :=
  ⟨h.a.aside hm (fun k h1 h2 => h.ap k h1 h2) (fun k hk => (h.b.low k hk).1), hd, fun k h1 hk => hk.elim (fun h2 => h.ap k h1 h2) fun h2 => by have := (h.a.low k h1).2; omega⟩
theorem Aside2.lt (h : Aside2 w g o F1 F2) : g < w.heap.size := (Array.getElem?_eq_some_iff.1 h.is).1
theorem Aside2.step (h : Aside2 w g o F1 F2) (hb : Below w.heap.size w w') : Aside2 w' g o F1 F2 := ⟨(hb.block g h.lt).trans h.is, h.o1, h.o2⟩
theorem Aside2.left (h : Aside2 w g o F1 F2) (hm : Mod F1 w w') : Aside2 w' g o (grownF F1 w w') F2 := ⟨(hm.block g h.lt h.o1).trans h.is, fun hg => hg.elim h.o1 fun hg => by have := h.lt; omega, h.o2⟩
theorem Aside2.right (h : Aside2 w g o F1 F2) (hm : Mod F2 w w') : Aside2 w' g o F1 (grownF F2 w w') := ⟨(hm.block g h.lt h.o2).trans h.is, h.o1, fun hg => hg.elim h.o2 fun hg => by have := h.lt; omega⟩
end
end Go.Proofs.Ytckahkpikjhkmaa
