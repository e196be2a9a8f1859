/-
  More rules: structs of two ints compared, a panic.
-/
import Derived.Test.YtdabjchdmieegaaRules2
import Derived.WalkSmall
set_option linter.unusedVariables false
namespace Go.Lift
open Go
section
variable {P : Program} {K : Value → World → Prop} {E : List PanicEntry → World → Prop} {w w' : World}

def intB (P : Program) (t : TypeId) : Bool := match P.underlying t with | some (.int _) => true | _ => false
def two64B (P : Program) (t : TypeId) : Bool :=
  match P.underlying t with
  | some (.struct fs) => (match fs.toList with
    | [f, g] => f.offset.beq 0 && g.offset.beq 1 && !decide (f.name = "_") && !decide (g.name = "_") && intB P f.type && intB P g.type && !P.stoodInHeld t && !P.eqGuardType P.depth t
    | _ => false)
  | _ => false

theorem intB_out {t : TypeId} (h : intB P t = true) : ∃ k, P.underlying t = some (.int k) := by
  unfold intB at h; split at h
  · rename_i k hu; exact ⟨k, hu⟩
  · cases h

theorem run_eql2 {t : TypeId} (h : two64B P t = true) {x y : Operand} {k : IntKind} (a b c d : Int) (w : World) :
    (sB .eql t (.agg #[.int k a, .int k b]) (.agg #[.int k c, .int k d]) (eqGuard .eql t x y (.agg #[.int k a, .int k b]) (.agg #[.int k c, .int k d]))).run P w = .ok (.value (.bool (a == c && b == d))) w := by
  unfold two64B at h
  split at h
  · rename_i fs hu
    split at h
    · rename_i f g hfs
      simp only [Bool.and_eq_true, Bool.not_eq_true', decide_eq_false_iff_not] at h
      obtain ⟨⟨⟨⟨⟨⟨⟨h1, h2⟩, h3⟩, h4⟩, h5⟩, h6⟩, h7⟩, h8⟩ := h
      obtain ⟨k1, hk1⟩ := intB_out h5
      obtain ⟨k2, hk2⟩ := intB_out h6
      have ho1 : f.offset = 0 := Nat.eq_of_beq_eq_true h1
      have ho2 : g.offset = 1 := Nat.eq_of_beq_eq_true h2
      have hfo : P.fieldsOf t = fs := by simp [Program.fieldsOf, hu]
      have hu' : P.underlying t = some (.struct (P.fieldsOf t)) := by rw [hfo]; exact hu
      have ag1 : ∀ w, (isAgg f.type).run P w = .ok false w := fun w => run_isAgg (by simp [aggB, hk1]) w
      have ag2 : ∀ w, (isAgg g.type).run P w = .ok false w := fun w => run_isAgg (by simp [aggB, hk2]) w
      refine run_sV ?_
      simp only [Sem.run_bind, run_eqGuard_agg w .eql t x y _ _ h8, Result.andThen_ok]
      rw [run_eql_struct, run_equalIn_agg w 9999 t _ _ hu' h7, hfo, hfs]
      simp only [Op.eqFields, h3, h4, ne_eq, not_false_eq_true, if_true, part, Sem.run_bind, ag1, ag2, Result.andThen_ok, ho1, ho2]
      have e1 : ∀ w, (Op.equalIn 9999 f.type (.int k a) (.int k c)).run P w = .ok (a == c) w := fun w => run_equalIn_int w 9998 f.type k k1 a c hk1
      have e2 : ∀ w, (Op.equalIn 9999 g.type (.int k b) (.int k d)).run P w = .ok (b == d) w := fun w => run_equalIn_int w 9998 g.type k k2 b d hk2
      cases hac : a == c <;> cases hbd : b == d <;> simp [e1, e2, ag1, ag2, hac, hbd]
    · cases h
  · cases h

theorem OPW.panic {t : TypeId} {v : Value} (h : E [{ v := .iface t v, recovered := false }] w) : OPW P (sV (Instr.panic (.iface t v))) w K E := by
  refine ⟨?_⟩
  have : (sV (Instr.panic (.iface t v))).run P w = .halt (.panic (.iface t v)) w := by simp [sV, run_panic_iface]
  rw [this]
  exact h
end
end Go.Lift
