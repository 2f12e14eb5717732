/- Links: places; what a link is in memory. -/
import Derived.Test.YtckahkpikjhkmaaLink3
import Derived.Laws.StructEq
namespace Go.Proofs.Ytckahkpikjhkmaa
open Go.RowKit

/-- A bag's place: its part; up? -/
abbrev Pla := Int × Bool
def plaV (k : Pla) : Value := .agg #[.int .i64 k.1, .bool k.2]
theorem pla_ck (b : Bool) (k : Pla) (w : World) : (Instr.checkKey b 10000 59 (plaV k)).run Try.prog w = .ok () w := by
  obtain ⟨p, u⟩ := k
  kernel_rfl
theorem pla_eq (k k' : Pla) (w : World) : (Op.equal 59 (plaV k) (plaV k')).run Try.prog w = .ok (decide (k = k')) w := by
  obtain ⟨p, u⟩ := k
  obtain ⟨p', u'⟩ := k'
  show (Op.equalIn 10000 59 (.agg #[.int .i64 p, .bool u]) (.agg #[.int .i64 p', .bool u'])).run Try.prog w = _
  rw [run_equalIn_struct w 9999 59 _ _ (by kernel_rfl) (by kernel_rfl)]
  have hl : ((Try.prog.fieldsOf 59).toList).map (fun f => (f.name != "_", f.type, f.offset)) = [(true, 3, 0), (true, 4, 1)] := by kernel_rfl
  generalize (Try.prog.fieldsOf 59).toList = fs at hl
  obtain ⟨f0, fs, rfl, h0, hl⟩ := List.map_eq_cons_iff.1 hl
  obtain ⟨f1, fs, rfl, h1, hl⟩ := List.map_eq_cons_iff.1 hl
  obtain rfl := List.map_eq_nil_iff.1 hl
  simp only [Prod.mk.injEq, bne_iff_ne, ne_eq] at h0 h1
  obtain ⟨n0, t0, o0⟩ := h0
  obtain ⟨n1, t1, o1⟩ := h1
  have hp0 : ∀ (x : Int) (v : Bool) (w : World), (part 3 #[.int .i64 x, .bool v] 0).run Try.prog w = .ok (.int .i64 x) w := fun _ _ _ => rfl
  have hp1 : ∀ (x : Int) (v : Bool) (w : World), (part 4 #[.int .i64 x, .bool v] 1).run Try.prog w = .ok (.bool v) w := fun _ _ _ => rfl
  have he := fun (w : World) (a b : Int) => run_equalIn_int (P := Try.prog) w 9998 3 .i64 .i64 a b Try.underlying3
  have hb : ∀ (w : World) (a b : Bool), (Op.equalIn 9999 4 (.bool a) (.bool b)).run Try.prog w = .ok (a == b) w := fun w a b => by cases a <;> cases b <;> kernel_rfl
  by_cases h1 : p = p' <;> cases u <;> cases u' <;> simp [Op.eqFields, n0, n1, t0, t1, o0, o1, hp0, hp1, he, hb, h1]
theorem plaLaw : KeyLaw Try.prog 59 plaV where
  ck := pla_ck
  eq := pla_eq
  desc := ⟨_, Try.underlying59, fun _ _ => rfl⟩
end Go.Proofs.Ytckahkpikjhkmaa
