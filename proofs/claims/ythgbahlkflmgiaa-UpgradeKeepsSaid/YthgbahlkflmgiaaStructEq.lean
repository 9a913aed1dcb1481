/- A struct is like itself: variables, arguments, steps, links, events. -/
import Derived.Test.YthgbahlkflmgiaaModelRows
import Derived.Laws.StructEq
namespace Go.Proofs.Ythgbahlkflmgiaa.Mo
open Go Go.RowKit
set_option linter.unusedVariables false
set_option linter.unusedSimpArgs false
set_option maxRecDepth 8000
theorem eq_var (a : ByteArray) (b : Int) (d : Nat) (w : World) : (Op.equalIn (d + 3) 80 (.agg #[.string a, .int .i64 b]) (.agg #[.string a, .int .i64 b])).run Try.prog w = .ok true w := by
  have hf : Try.prog.fieldsOf 80 = #[(Try.prog.fieldsOf 80).getD 0 default, (Try.prog.fieldsOf 80).getD 1 default] := by kernel_rfl
  rw [run_equalIn_struct (d := d + 2) w _ _ _ (by kernel_rfl) (by kernel_rfl)]
  have h0 : (part ((Try.prog.fieldsOf 80).getD 0 default).type #[.string a, .int .i64 b] ((Try.prog.fieldsOf 80).getD 0 default).offset).run Try.prog w = .ok (.string a) w := by kernel_rfl
  have n0 : ((Try.prog.fieldsOf 80).getD 0 default).name ≠ "_" := by decide +kernel
  have e0 : (Op.equalIn (d + 2) ((Try.prog.fieldsOf 80).getD 0 default).type (.string a) (.string a)).run Try.prog w = .ok true w := by rw [run_equalIn_string w (d + 1) _ _ _ (by kernel_rfl)]; simp
  have h1 : (part ((Try.prog.fieldsOf 80).getD 1 default).type #[.string a, .int .i64 b] ((Try.prog.fieldsOf 80).getD 1 default).offset).run Try.prog w = .ok (.int .i64 b) w := by kernel_rfl
  have n1 : ((Try.prog.fieldsOf 80).getD 1 default).name ≠ "_" := by decide +kernel
  have e1 : (Op.equalIn (d + 2) ((Try.prog.fieldsOf 80).getD 1 default).type (.int .i64 b) (.int .i64 b)).run Try.prog w = .ok true w := by rw [run_equalIn_int w (d + 1) _ .i64 .i64 _ _ (by kernel_rfl)]; simp
  rw [hf]
  generalize (Try.prog.fieldsOf 80).getD 0 default = f0 at *
  generalize (Try.prog.fieldsOf 80).getD 1 default = f1 at *
  simp only [Op.eqFields, n0, h0, e0, n1, h1, e1, ne_eq, not_false_eq_true, if_true, Sem.run_bind, Result.andThen_ok, Bool.not_true, Bool.false_eq_true, if_false, Sem.run_pure]
theorem eq_event (a : ByteArray) (b c : Int) (d : Nat) (w : World) : (Op.equalIn (d + 3) 57 (.agg #[.string a, .int .i64 b, .int .i64 c]) (.agg #[.string a, .int .i64 b, .int .i64 c])).run Try.prog w = .ok true w := by
  have hf : Try.prog.fieldsOf 57 = #[(Try.prog.fieldsOf 57).getD 0 default, (Try.prog.fieldsOf 57).getD 1 default, (Try.prog.fieldsOf 57).getD 2 default] := by kernel_rfl
  rw [run_equalIn_struct (d := d + 2) w _ _ _ (by kernel_rfl) (by kernel_rfl)]
  have h0 : (part ((Try.prog.fieldsOf 57).getD 0 default).type #[.string a, .int .i64 b, .int .i64 c] ((Try.prog.fieldsOf 57).getD 0 default).offset).run Try.prog w = .ok (.string a) w := by kernel_rfl
  have n0 : ((Try.prog.fieldsOf 57).getD 0 default).name ≠ "_" := by decide +kernel
  have e0 : (Op.equalIn (d + 2) ((Try.prog.fieldsOf 57).getD 0 default).type (.string a) (.string a)).run Try.prog w = .ok true w := by rw [run_equalIn_string w (d + 1) _ _ _ (by kernel_rfl)]; simp
  have h1 : (part ((Try.prog.fieldsOf 57).getD 1 default).type #[.string a, .int .i64 b, .int .i64 c] ((Try.prog.fieldsOf 57).getD 1 default).offset).run Try.prog w = .ok (.int .i64 b) w := by kernel_rfl
  have n1 : ((Try.prog.fieldsOf 57).getD 1 default).name ≠ "_" := by decide +kernel
  have e1 : (Op.equalIn (d + 2) ((Try.prog.fieldsOf 57).getD 1 default).type (.int .i64 b) (.int .i64 b)).run Try.prog w = .ok true w := by rw [run_equalIn_int w (d + 1) _ .i64 .i64 _ _ (by kernel_rfl)]; simp
  have h2 : (part ((Try.prog.fieldsOf 57).getD 2 default).type #[.string a, .int .i64 b, .int .i64 c] ((Try.prog.fieldsOf 57).getD 2 default).offset).run Try.prog w = .ok (.int .i64 c) w := by kernel_rfl
  have n2 : ((Try.prog.fieldsOf 57).getD 2 default).name ≠ "_" := by decide +kernel
  have e2 : (Op.equalIn (d + 2) ((Try.prog.fieldsOf 57).getD 2 default).type (.int .i64 c) (.int .i64 c)).run Try.prog w = .ok true w := by rw [run_equalIn_int w (d + 1) _ .i64 .i64 _ _ (by kernel_rfl)]; simp
  rw [hf]
  generalize (Try.prog.fieldsOf 57).getD 0 default = f0 at *
  generalize (Try.prog.fieldsOf 57).getD 1 default = f1 at *
  generalize (Try.prog.fieldsOf 57).getD 2 default = f2 at *
  simp only [Op.eqFields, n0, h0, e0, n1, h1, e1, n2, h2, e2, ne_eq, not_false_eq_true, if_true, Sem.run_bind, Result.andThen_ok, Bool.not_true, Bool.false_eq_true, if_false, Sem.run_pure]
theorem eq_link (a b c : ByteArray) (x y : Int) (d : Nat) (w : World) : (Op.equalIn (d + 3) 48 (.agg #[.string a, .string b, .string c, .int .i64 x, .int .i64 y]) (.agg #[.string a, .string b, .string c, .int .i64 x, .int .i64 y])).run Try.prog w = .ok true w := by
  have hf : Try.prog.fieldsOf 48 = #[(Try.prog.fieldsOf 48).getD 0 default, (Try.prog.fieldsOf 48).getD 1 default, (Try.prog.fieldsOf 48).getD 2 default, (Try.prog.fieldsOf 48).getD 3 default, (Try.prog.fieldsOf 48).getD 4 default] := by kernel_rfl
  rw [run_equalIn_struct (d := d + 2) w _ _ _ (by kernel_rfl) (by kernel_rfl)]
  have h0 : (part ((Try.prog.fieldsOf 48).getD 0 default).type #[.string a, .string b, .string c, .int .i64 x, .int .i64 y] ((Try.prog.fieldsOf 48).getD 0 default).offset).run Try.prog w = .ok (.string a) w := by kernel_rfl
  have n0 : ((Try.prog.fieldsOf 48).getD 0 default).name ≠ "_" := by decide +kernel
  have e0 : (Op.equalIn (d + 2) ((Try.prog.fieldsOf 48).getD 0 default).type (.string a) (.string a)).run Try.prog w = .ok true w := by rw [run_equalIn_string w (d + 1) _ _ _ (by kernel_rfl)]; simp
  have h1 : (part ((Try.prog.fieldsOf 48).getD 1 default).type #[.string a, .string b, .string c, .int .i64 x, .int .i64 y] ((Try.prog.fieldsOf 48).getD 1 default).offset).run Try.prog w = .ok (.string b) w := by kernel_rfl
  have n1 : ((Try.prog.fieldsOf 48).getD 1 default).name ≠ "_" := by decide +kernel
  have e1 : (Op.equalIn (d + 2) ((Try.prog.fieldsOf 48).getD 1 default).type (.string b) (.string b)).run Try.prog w = .ok true w := by rw [run_equalIn_string w (d + 1) _ _ _ (by kernel_rfl)]; simp
  have h2 : (part ((Try.prog.fieldsOf 48).getD 2 default).type #[.string a, .string b, .string c, .int .i64 x, .int .i64 y] ((Try.prog.fieldsOf 48).getD 2 default).offset).run Try.prog w = .ok (.string c) w := by kernel_rfl
  have n2 : ((Try.prog.fieldsOf 48).getD 2 default).name ≠ "_" := by decide +kernel
  have e2 : (Op.equalIn (d + 2) ((Try.prog.fieldsOf 48).getD 2 default).type (.string c) (.string c)).run Try.prog w = .ok true w := by rw [run_equalIn_string w (d + 1) _ _ _ (by kernel_rfl)]; simp
  have h3 : (part ((Try.prog.fieldsOf 48).getD 3 default).type #[.string a, .string b, .string c, .int .i64 x, .int .i64 y] ((Try.prog.fieldsOf 48).getD 3 default).offset).run Try.prog w = .ok (.int .i64 x) w := by kernel_rfl
  have n3 : ((Try.prog.fieldsOf 48).getD 3 default).name ≠ "_" := by decide +kernel
  have e3 : (Op.equalIn (d + 2) ((Try.prog.fieldsOf 48).getD 3 default).type (.int .i64 x) (.int .i64 x)).run Try.prog w = .ok true w := by rw [run_equalIn_int w (d + 1) _ .i64 .i64 _ _ (by kernel_rfl)]; simp
  have h4 : (part ((Try.prog.fieldsOf 48).getD 4 default).type #[.string a, .string b, .string c, .int .i64 x, .int .i64 y] ((Try.prog.fieldsOf 48).getD 4 default).offset).run Try.prog w = .ok (.int .i64 y) w := by kernel_rfl
  have n4 : ((Try.prog.fieldsOf 48).getD 4 default).name ≠ "_" := by decide +kernel
  have e4 : (Op.equalIn (d + 2) ((Try.prog.fieldsOf 48).getD 4 default).type (.int .i64 y) (.int .i64 y)).run Try.prog w = .ok true w := by rw [run_equalIn_int w (d + 1) _ .i64 .i64 _ _ (by kernel_rfl)]; simp
  rw [hf]
  generalize (Try.prog.fieldsOf 48).getD 0 default = f0 at *
  generalize (Try.prog.fieldsOf 48).getD 1 default = f1 at *
  generalize (Try.prog.fieldsOf 48).getD 2 default = f2 at *
  generalize (Try.prog.fieldsOf 48).getD 3 default = f3 at *
  generalize (Try.prog.fieldsOf 48).getD 4 default = f4 at *
  simp only [Op.eqFields, n0, h0, e0, n1, h1, e1, n2, h2, e2, n3, h3, e3, n4, h4, e4, ne_eq, not_false_eq_true, if_true, Sem.run_bind, Result.andThen_ok, Bool.not_true, Bool.false_eq_true, if_false, Sem.run_pure]
theorem eq_arg (x y : Int) (c : ByteArray) (d : Nat) (w : World) : (Op.equalIn (d + 3) 88 (.agg #[.int .i64 x, .int .i64 y, .string c]) (.agg #[.int .i64 x, .int .i64 y, .string c])).run Try.prog w = .ok true w := by
  have hf : Try.prog.fieldsOf 88 = #[(Try.prog.fieldsOf 88).getD 0 default, (Try.prog.fieldsOf 88).getD 1 default, (Try.prog.fieldsOf 88).getD 2 default] := by kernel_rfl
  rw [run_equalIn_struct (d := d + 2) w _ _ _ (by kernel_rfl) (by kernel_rfl)]
  have h0 : (part ((Try.prog.fieldsOf 88).getD 0 default).type #[.int .i64 x, .int .i64 y, .string c] ((Try.prog.fieldsOf 88).getD 0 default).offset).run Try.prog w = .ok (.int .i64 x) w := by kernel_rfl
  have n0 : ((Try.prog.fieldsOf 88).getD 0 default).name ≠ "_" := by decide +kernel
  have e0 : (Op.equalIn (d + 2) ((Try.prog.fieldsOf 88).getD 0 default).type (.int .i64 x) (.int .i64 x)).run Try.prog w = .ok true w := by rw [run_equalIn_int w (d + 1) _ .i64 .i64 _ _ (by kernel_rfl)]; simp
  have h1 : (part ((Try.prog.fieldsOf 88).getD 1 default).type #[.int .i64 x, .int .i64 y, .string c] ((Try.prog.fieldsOf 88).getD 1 default).offset).run Try.prog w = .ok (.int .i64 y) w := by kernel_rfl
  have n1 : ((Try.prog.fieldsOf 88).getD 1 default).name ≠ "_" := by decide +kernel
  have e1 : (Op.equalIn (d + 2) ((Try.prog.fieldsOf 88).getD 1 default).type (.int .i64 y) (.int .i64 y)).run Try.prog w = .ok true w := by rw [run_equalIn_int w (d + 1) _ .i64 .i64 _ _ (by kernel_rfl)]; simp
  have h2 : (part ((Try.prog.fieldsOf 88).getD 2 default).type #[.int .i64 x, .int .i64 y, .string c] ((Try.prog.fieldsOf 88).getD 2 default).offset).run Try.prog w = .ok (.string c) w := by kernel_rfl
  have n2 : ((Try.prog.fieldsOf 88).getD 2 default).name ≠ "_" := by decide +kernel
  have e2 : (Op.equalIn (d + 2) ((Try.prog.fieldsOf 88).getD 2 default).type (.string c) (.string c)).run Try.prog w = .ok true w := by rw [run_equalIn_string w (d + 1) _ _ _ (by kernel_rfl)]; simp
  rw [hf]
  generalize (Try.prog.fieldsOf 88).getD 0 default = f0 at *
  generalize (Try.prog.fieldsOf 88).getD 1 default = f1 at *
  generalize (Try.prog.fieldsOf 88).getD 2 default = f2 at *
  simp only [Op.eqFields, n0, h0, e0, n1, h1, e1, n2, h2, e2, ne_eq, not_false_eq_true, if_true, Sem.run_bind, Result.andThen_ok, Bool.not_true, Bool.false_eq_true, if_false, Sem.run_pure]
theorem eq_step (k : Int) (a : ByteArray) (x y : Int) (c : ByteArray) (d : Nat) (w : World) : (Op.equalIn (d + 4) 90 (.agg #[.int .i64 k, .string a, .int .i64 x, .int .i64 y, .string c]) (.agg #[.int .i64 k, .string a, .int .i64 x, .int .i64 y, .string c])).run Try.prog w = .ok true w := by
  have hf : Try.prog.fieldsOf 90 = #[(Try.prog.fieldsOf 90).getD 0 default, (Try.prog.fieldsOf 90).getD 1 default, (Try.prog.fieldsOf 90).getD 2 default] := by kernel_rfl
  rw [run_equalIn_struct (d := d + 3) w _ _ _ (by kernel_rfl) (by kernel_rfl)]
  have h0 : (part ((Try.prog.fieldsOf 90).getD 0 default).type #[.int .i64 k, .string a, .int .i64 x, .int .i64 y, .string c] ((Try.prog.fieldsOf 90).getD 0 default).offset).run Try.prog w = .ok (.int .i64 k) w := by kernel_rfl
  have n0 : ((Try.prog.fieldsOf 90).getD 0 default).name ≠ "_" := by decide +kernel
  have e0 : (Op.equalIn (d + 3) ((Try.prog.fieldsOf 90).getD 0 default).type (.int .i64 k) (.int .i64 k)).run Try.prog w = .ok true w := by rw [run_equalIn_int w (d + 2) _ .i64 .i64 _ _ (by kernel_rfl)]; simp
  have h1 : (part ((Try.prog.fieldsOf 90).getD 1 default).type #[.int .i64 k, .string a, .int .i64 x, .int .i64 y, .string c] ((Try.prog.fieldsOf 90).getD 1 default).offset).run Try.prog w = .ok (.string a) w := by kernel_rfl
  have n1 : ((Try.prog.fieldsOf 90).getD 1 default).name ≠ "_" := by decide +kernel
  have e1 : (Op.equalIn (d + 3) ((Try.prog.fieldsOf 90).getD 1 default).type (.string a) (.string a)).run Try.prog w = .ok true w := by rw [run_equalIn_string w (d + 2) _ _ _ (by kernel_rfl)]; simp
  have h2 : (part ((Try.prog.fieldsOf 90).getD 2 default).type #[.int .i64 k, .string a, .int .i64 x, .int .i64 y, .string c] ((Try.prog.fieldsOf 90).getD 2 default).offset).run Try.prog w = .ok (.agg #[.int .i64 x, .int .i64 y, .string c]) w := by kernel_rfl
  have n2 : ((Try.prog.fieldsOf 90).getD 2 default).name ≠ "_" := by decide +kernel
  have e2 : (Op.equalIn (d + 3) ((Try.prog.fieldsOf 90).getD 2 default).type (.agg #[.int .i64 x, .int .i64 y, .string c]) (.agg #[.int .i64 x, .int .i64 y, .string c])).run Try.prog w = .ok true w := by have ht : ((Try.prog.fieldsOf 90).getD 2 default).type = 88 := (by kernel_rfl); rw [ht]; exact eq_arg x y c (d + 0) w
  rw [hf]
  generalize (Try.prog.fieldsOf 90).getD 0 default = f0 at *
  generalize (Try.prog.fieldsOf 90).getD 1 default = f1 at *
  generalize (Try.prog.fieldsOf 90).getD 2 default = f2 at *
  simp only [Op.eqFields, n0, h0, e0, n1, h1, e1, n2, h2, e2, ne_eq, not_false_eq_true, if_true, Sem.run_bind, Result.andThen_ok, Bool.not_true, Bool.false_eq_true, if_false, Sem.run_pure]
theorem ne_var (a : ByteArray) (b : Int) (w : World) : (binOp .neq 80 (.agg #[.string a, .int .i64 b]) (.agg #[.string a, .int .i64 b])).run Try.prog w = .ok (.bool false) w := by
  rw [run_neq_struct, show (10000 : Nat) = 9997 + 3 from rfl, eq_var a b 9997 w]
  rfl
theorem ne_event (a : ByteArray) (b c : Int) (w : World) : (binOp .neq 57 (.agg #[.string a, .int .i64 b, .int .i64 c]) (.agg #[.string a, .int .i64 b, .int .i64 c])).run Try.prog w = .ok (.bool false) w := by
  rw [run_neq_struct, show (10000 : Nat) = 9997 + 3 from rfl, eq_event a b c 9997 w]
  rfl
theorem ne_link (a b c : ByteArray) (x y : Int) (w : World) : (binOp .neq 48 (.agg #[.string a, .string b, .string c, .int .i64 x, .int .i64 y]) (.agg #[.string a, .string b, .string c, .int .i64 x, .int .i64 y])).run Try.prog w = .ok (.bool false) w := by
  rw [run_neq_struct, show (10000 : Nat) = 9997 + 3 from rfl, eq_link a b c x y 9997 w]
  rfl
theorem ne_step (k : Int) (a : ByteArray) (x y : Int) (c : ByteArray) (w : World) : (binOp .neq 90 (.agg #[.int .i64 k, .string a, .int .i64 x, .int .i64 y, .string c]) (.agg #[.int .i64 k, .string a, .int .i64 x, .int .i64 y, .string c])).run Try.prog w = .ok (.bool false) w := by
  rw [run_neq_struct, show (10000 : Nat) = 9996 + 4 from rfl, eq_step k a x y c 9996 w]
  rfl
end Go.Proofs.Ythgbahlkflmgiaa.Mo
