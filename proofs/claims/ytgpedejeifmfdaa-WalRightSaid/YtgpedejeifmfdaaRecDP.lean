/- Right of each kind, plain. -/
import Derived.Test.YtgpedejeifmfdaaRecD1
namespace Go.Proofs.Ytgpedejeifmfdaa
section
variable {t m k0 k1 k2 k3 o n : Int} {ot nt : Bool}
theorem bool_iff {a b : Bool} (h : a = true ↔ b = true) : a = b := Bool.eq_iff_iff.2 h
set_option maxHeartbeats 1000000 in
theorem rr1 : rightRc ⟨1, t, m, k0, k1, k2, k3, ot, o, nt, n⟩ = (decide (1 ≤ t) && decide (t ≤ 1048576) && decide (m = 0) && decide (valOk ot o) && decide (valOk nt n)) := by
  refine bool_iff ?_
  unfold rightRc
  rw [decide_eq_true_iff, right_iffs]
  simp only [Bool.and_eq_true, decide_eq_true_eq, partRc, if_true, Rc.mk.injEq, true_and, and_true]
  constructor
  · rintro ⟨-, h, ⟨h1, h2⟩, h3, h4⟩; exact ⟨⟨⟨⟨h1, h2⟩, by first | exact h | exact h.symm⟩, h3⟩, h4⟩
  · rintro ⟨⟨⟨⟨h1, h2⟩, h⟩, h3⟩, h4⟩; exact ⟨by decide, by first | exact h | exact h.symm, ⟨h1, h2⟩, h3, h4⟩
theorem rr2 : rightRc ⟨2, t, m, k0, k1, k2, k3, ot, o, nt, n⟩ = (decide ((⟨2, t, m, k0, k1, k2, k3, ot, o, nt, n⟩ : Rc) = ⟨2, t, m, 0, 0, 0, 0, false, 0, false, 0⟩) && decide (1 ≤ t) && decide (t ≤ 1048576) && decide (m ≠ 0)) := by
  refine bool_iff ?_
  unfold rightRc
  rw [decide_eq_true_iff, right_iffs]
  rw [show partRc ⟨2, t, m, k0, k1, k2, k3, ot, o, nt, n⟩ = ⟨2, t, m, 0, 0, 0, 0, false, 0, false, 0⟩ from rfl, if_neg (by decide), if_pos rfl]
  simp only [Bool.and_eq_true, decide_eq_true_eq]
  exact ⟨fun h => ⟨⟨⟨h.2.1.symm, h.2.2.1.1⟩, h.2.2.1.2⟩, h.2.2.2⟩, fun h => ⟨by decide, h.1.1.1.symm, ⟨h.1.1.2, h.1.2⟩, h.2⟩⟩
theorem rr7 : rightRc ⟨7, t, m, k0, k1, k2, k3, ot, o, nt, n⟩ = (decide ((⟨7, t, m, k0, k1, k2, k3, ot, o, nt, n⟩ : Rc) = ⟨7, 0, 0, k0, k1, k2, k3, false, 0, nt, n⟩) && nt) := by
  refine bool_iff ?_
  unfold rightRc
  rw [decide_eq_true_iff, right_iffs]
  rw [show partRc ⟨7, t, m, k0, k1, k2, k3, ot, o, nt, n⟩ = ⟨7, 0, 0, k0, k1, k2, k3, false, 0, nt, n⟩ from rfl, if_neg (by decide), if_neg (by decide), if_pos rfl]
  simp only [Bool.and_eq_true, decide_eq_true_eq]
  exact ⟨fun h => ⟨h.2.1.symm, h.2.2⟩, fun h => ⟨by decide, h.1.symm, h.2⟩⟩
theorem rr8 : rightRc ⟨8, t, m, k0, k1, k2, k3, ot, o, nt, n⟩ = (decide ((⟨8, t, m, k0, k1, k2, k3, ot, o, nt, n⟩ : Rc) = ⟨8, 0, m, 0, 0, 0, 0, false, 0, false, 0⟩) && decide (m ≤ 64)) := by
  refine bool_iff ?_
  unfold rightRc
  rw [decide_eq_true_iff, right_iffs]
  rw [show partRc ⟨8, t, m, k0, k1, k2, k3, ot, o, nt, n⟩ = ⟨8, 0, m, 0, 0, 0, 0, false, 0, false, 0⟩ from rfl, if_neg (by decide), if_neg (by decide), if_neg (by decide), if_pos rfl]
  simp only [Bool.and_eq_true, decide_eq_true_eq]
  exact ⟨fun h => ⟨h.2.1.symm, h.2.2⟩, fun h => ⟨by decide, h.1.symm, h.2⟩⟩
theorem rr3 : rightRc ⟨3, t, m, k0, k1, k2, k3, ot, o, nt, n⟩ = (decide ((⟨3, t, m, k0, k1, k2, k3, ot, o, nt, n⟩ : Rc) = ⟨3, t, 0, 0, 0, 0, 0, false, 0, false, 0⟩) && decide (1 ≤ t) && decide (t ≤ 1048576)) := by
  refine bool_iff ?_
  unfold rightRc
  rw [decide_eq_true_iff, right_iffs]
  rw [show partRc ⟨3, t, m, k0, k1, k2, k3, ot, o, nt, n⟩ = ⟨3, t, 0, 0, 0, 0, 0, false, 0, false, 0⟩ from rfl, if_neg (by decide), if_neg (by decide), if_neg (by decide), if_neg (by decide)]
  simp only [Bool.and_eq_true, decide_eq_true_eq]
  exact ⟨fun h => ⟨⟨h.2.1.symm, h.2.2.1⟩, h.2.2.2⟩, fun h => ⟨by decide, h.1.1.symm, h.1.2, h.2⟩⟩
theorem rr4 : rightRc ⟨4, t, m, k0, k1, k2, k3, ot, o, nt, n⟩ = (decide ((⟨4, t, m, k0, k1, k2, k3, ot, o, nt, n⟩ : Rc) = ⟨4, t, 0, 0, 0, 0, 0, false, 0, false, 0⟩) && decide (1 ≤ t) && decide (t ≤ 1048576)) := by
  refine bool_iff ?_
  unfold rightRc
  rw [decide_eq_true_iff, right_iffs]
  rw [show partRc ⟨4, t, m, k0, k1, k2, k3, ot, o, nt, n⟩ = ⟨4, t, 0, 0, 0, 0, 0, false, 0, false, 0⟩ from rfl, if_neg (by decide), if_neg (by decide), if_neg (by decide), if_neg (by decide)]
  simp only [Bool.and_eq_true, decide_eq_true_eq]
  exact ⟨fun h => ⟨⟨h.2.1.symm, h.2.2.1⟩, h.2.2.2⟩, fun h => ⟨by decide, h.1.1.symm, h.1.2, h.2⟩⟩
theorem rr5 : rightRc ⟨5, t, m, k0, k1, k2, k3, ot, o, nt, n⟩ = (decide ((⟨5, t, m, k0, k1, k2, k3, ot, o, nt, n⟩ : Rc) = ⟨5, t, 0, 0, 0, 0, 0, false, 0, false, 0⟩) && decide (1 ≤ t) && decide (t ≤ 1048576)) := by
  refine bool_iff ?_
  unfold rightRc
  rw [decide_eq_true_iff, right_iffs]
  rw [show partRc ⟨5, t, m, k0, k1, k2, k3, ot, o, nt, n⟩ = ⟨5, t, 0, 0, 0, 0, 0, false, 0, false, 0⟩ from rfl, if_neg (by decide), if_neg (by decide), if_neg (by decide), if_neg (by decide)]
  simp only [Bool.and_eq_true, decide_eq_true_eq]
  exact ⟨fun h => ⟨⟨h.2.1.symm, h.2.2.1⟩, h.2.2.2⟩, fun h => ⟨by decide, h.1.1.symm, h.1.2, h.2⟩⟩
theorem rr6 : rightRc ⟨6, t, m, k0, k1, k2, k3, ot, o, nt, n⟩ = (decide ((⟨6, t, m, k0, k1, k2, k3, ot, o, nt, n⟩ : Rc) = ⟨6, t, 0, 0, 0, 0, 0, false, 0, false, 0⟩) && decide (1 ≤ t) && decide (t ≤ 1048576)) := by
  refine bool_iff ?_
  unfold rightRc
  rw [decide_eq_true_iff, right_iffs]
  rw [show partRc ⟨6, t, m, k0, k1, k2, k3, ot, o, nt, n⟩ = ⟨6, t, 0, 0, 0, 0, 0, false, 0, false, 0⟩ from rfl, if_neg (by decide), if_neg (by decide), if_neg (by decide), if_neg (by decide)]
  simp only [Bool.and_eq_true, decide_eq_true_eq]
  exact ⟨fun h => ⟨⟨h.2.1.symm, h.2.2.1⟩, h.2.2.2⟩, fun h => ⟨by decide, h.1.1.symm, h.1.2, h.2⟩⟩
end
end Go.Proofs.Ytgpedejeifmfdaa
