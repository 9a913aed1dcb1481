/- == and != of two faults. -/
import Derived.Test.YtehecolejeonaaaCkSmall
import Derived.Laws.StructEq
namespace Go.Proofs.Ytehecolejeonaaa.Mo
set_option linter.unusedSimpArgs false
set_option linter.unusedVariables false
open Go Go.RowKit
theorem fault_eq (a b c d : Int) (w : World) : (binOp .eql 33 (.agg #[.int .i64 a, .int .i64 b]) (.agg #[.int .i64 c, .int .i64 d])).run Try.prog w = .ok (.bool ((a == c) && (b == d))) w := by
  have hf : Try.prog.fieldsOf 33 = #[Try.prog.fieldsOf 33 |>.getD 0 default, Try.prog.fieldsOf 33 |>.getD 1 default] := by kernel_rfl
  rw [run_eql_struct, run_equalIn_struct (d := 9999) w _ _ _ (by kernel_rfl) (by kernel_rfl)]
  have h0 : ∀ x y : Int, (part ((Try.prog.fieldsOf 33).getD 0 default).type #[.int .i64 x, .int .i64 y] ((Try.prog.fieldsOf 33).getD 0 default).offset).run Try.prog w = .ok (.int .i64 x) w := fun _ _ => by kernel_rfl
  have h1 : ∀ x y : Int, (part ((Try.prog.fieldsOf 33).getD 1 default).type #[.int .i64 x, .int .i64 y] ((Try.prog.fieldsOf 33).getD 1 default).offset).run Try.prog w = .ok (.int .i64 y) w := fun _ _ => by kernel_rfl
  have n0 : ((Try.prog.fieldsOf 33).getD 0 default).name ≠ "_" := by decide +kernel
  have n1 : ((Try.prog.fieldsOf 33).getD 1 default).name ≠ "_" := by decide +kernel
  have u0 : Try.prog.underlying ((Try.prog.fieldsOf 33).getD 0 default).type = some (.int .i64) := by kernel_rfl
  have u1 : Try.prog.underlying ((Try.prog.fieldsOf 33).getD 1 default).type = some (.int .i64) := by kernel_rfl
  rw [hf]
  generalize (Try.prog.fieldsOf 33).getD 0 default = f0 at *
  generalize (Try.prog.fieldsOf 33).getD 1 default = f1 at *
  simp only [Op.eqFields, n0, n1, ne_eq, not_false_eq_true, if_true, Sem.run_bind, h0, Result.andThen_ok, run_equalIn_int w 9998 _ .i64 .i64 _ _ u0]
  have e1 := fun x y : Int => run_equalIn_int w 9998 _ .i64 .i64 x y u1
  have e0 := fun x y : Int => run_equalIn_int w 9998 _ .i64 .i64 x y u0
  cases h2 : (a == c)
  · simp [h2]
  · cases h3 : (b == d) <;> simp [h2, h3, Op.eqFields, n0, n1, h1, e1, Sem.run_bind, Result.andThen_ok]
theorem fault_ne (a b c d : Int) (w : World) : (binOp .neq 33 (.agg #[.int .i64 a, .int .i64 b]) (.agg #[.int .i64 c, .int .i64 d])).run Try.prog w = .ok (.bool (!((a == c) && (b == d)))) w := by
  have h := fault_eq a b c d w
  rw [run_eql_struct] at h
  rw [run_neq_struct]
  revert h
  generalize (Op.equalIn 10000 33 (.agg #[.int .i64 a, .int .i64 b]) (.agg #[.int .i64 c, .int .i64 d])).run Try.prog w = r
  intro h
  cases r with
  | ok x w1 => simp only [Result.andThen_ok, Result.ok.injEq, Value.bool.injEq] at h ⊢; rw [h.1, h.2]; exact ⟨rfl, rfl⟩
  | halt x w1 => simp [Result.andThen] at h
end Go.Proofs.Ytehecolejeonaaa.Mo
