/- What is sorted is sorted: plain; Two structs are alike just if their fields are: variables, arguments, steps, links, events. -/
import Derived.Test.YtniocgnfgpaioaaGreatG15
import Derived.Test.YtniocgnfgpaioaaGreatG5
import Derived.Laws.StructEq
set_option linter.unusedVariables false
set_option linter.unusedSimpArgs false
section
section
namespace Go.Proofs.YtniocgnfgpaioaaGreat.HpPure
variable {α : Type}
/-- What never falls. -/
def Rises (lt : α → α → Bool) (xs : List α) : Prop := xs.Pairwise (fun a b => lt b a = false)
theorem sortedBy_rises {lt : α → α → Bool} (h : SWO lt) (xs : List α) : Rises lt (sortedBy lt xs) := by
 have h1 := sortedP_sorted h xs
 unfold Rises sortedBy
 rw [List.pairwise_map]
 refine h1.imp fun {a b} hab => ?_
 simp only [bef, Bool.or_eq_false_iff] at hab
 exact hab.1
theorem posR_end {lt : α → α → Bool} {x : α} {out : List α} (h : ∀ y ∈ out, lt x y = false) : posR lt x out out.length = out.length := by
 cases hl : out.length with
 | zero => rfl
 | succ k =>
  have hk : k < out.length := by omega
  exact posR_stop (List.getElem?_eq_getElem hk) (h _ (List.getElem_mem _))
theorem insR_end {lt : α → α → Bool} {x : α} {out : List α} (h : ∀ y ∈ out, lt x y = false) : insR lt out x = out ++ [x] := by
 unfold insR
 rw [posR_end h, List.take_length, List.drop_length]
theorem insAll_rises {lt : α → α → Bool} {xs : List α} (h : Rises lt xs) : insAll lt xs = xs := by
 have key : ∀ (xs acc : List α), Rises lt (acc ++ xs) → xs.foldl (insR lt) acc = acc ++ xs := by
  intro xs
  induction xs with
  | nil => intro acc _; simp
  | cons x xs ih =>
   intro acc hr
   rw [List.foldl_cons, insR_end, ih (acc ++ [x]) (by simpa using hr)]
   ·simp
   ·intro y hy
    unfold Rises at hr
    rw [List.pairwise_append] at hr
    exact hr.2.2 y hy x (by simp)
 exact (key xs [] (by simpa using h)).trans (List.nil_append xs)
theorem sortedBy_id {lt : α → α → Bool} (hs : SWO lt) {xs : List α} (h : Rises lt xs) : sortedBy lt xs = xs := by
 rw [← insAll_sorted hs, insAll_rises h]
theorem sortedBy_twice {lt : α → α → Bool} (hs : SWO lt) (xs : List α) : sortedBy lt (sortedBy lt xs) = sortedBy lt xs := sortedBy_id hs (sortedBy_rises hs xs)
end Go.Proofs.YtniocgnfgpaioaaGreat.HpPure
namespace Go.Proofs.YtniocgnfgpaioaaGreat.Mo
open Go Go.RowKit Go.Proofs.YtniocgnfgpaioaaGreat.Lb Go.Proofs.YtniocgnfgpaioaaGreat.HpPure
theorem sort_map_can (ps : List Pr) : sortedBy plt (ps.map canP) = (sortedBy plt ps).map canP := sortedBy_mapf plt_swo canP ps
theorem canP_twice (p : Pr) : canP (canP p) = canP p := by
 unfold canP
 simp only [sortedBy_twice vlt_swo]
/-- What is laid down is laid down. -/
theorem canM_twice (m : Md) : canM (canM m) = canM m := by
 unfold canM
 simp only [sort_map_can, sortedBy_twice plt_swo, sortedBy_twice llt_swo, sortedBy_twice elt_swo, List.map_map]
 congr 1
 refine List.map_congr_left fun p _ => canP_twice p
end Go.Proofs.YtniocgnfgpaioaaGreat.Mo
end
end
section
namespace Go.Proofs.YtniocgnfgpaioaaGreat.Mo
open Go Go.RowKit
set_option maxRecDepth 8000
theorem eqF_nil {P : Program} {w : World} {d : Nat} {xs ys : Array Value} : (Op.eqFields d xs ys []).run P w = .ok true w := rfl
theorem eqF_cons {P : Program} {w : World} {d : Nat} {f : Field} {fs : List Field} {xs ys : Array Value} {a b : Value} {r q : Bool} (hn : f.name ≠ "_") (ha : (Go.part f.type xs f.offset).run P w = .ok a w) (hb : (Go.part f.type ys f.offset).run P w = .ok b w)
  (he : (Op.equalIn d f.type a b).run P w = .ok r w) (hr : (Op.eqFields d xs ys fs).run P w = .ok q w) : (Op.eqFields d xs ys (f :: fs)).run P w = .ok (r && q) w := by
 simp only [Op.eqFields, hn, ne_eq, not_false_eq_true, if_true, Sem.run_bind, ha, hb, he, Result.andThen_ok]
 cases r
 ·simp
 ·simpa using hr
theorem cq_var (a1 : ByteArray) (b1 : Int) (a2 : ByteArray) (b2 : Int) (d : Nat) (w : World) : (Op.equalIn (d + 3) 40 (.agg #[.string a1, .int .i64 b1]) (.agg #[.string a2, .int .i64 b2])).run Tryz.prog w = .ok ((a1.toList == a2.toList) && ((b1 == b2) && true)) w := by
 have hf : Tryz.prog.fieldsOf 40 = #[(Tryz.prog.fieldsOf 40).getD 0 default, (Tryz.prog.fieldsOf 40).getD 1 default] := by kernel_rfl
 rw [run_equalIn_struct (d := d + 2) w _ _ _ (by kernel_rfl) (by kernel_rfl)]
 have h0 : (Go.part ((Tryz.prog.fieldsOf 40).getD 0 default).type #[.string a1, .int .i64 b1] ((Tryz.prog.fieldsOf 40).getD 0 default).offset).run Tryz.prog w = .ok (.string a1) w := by kernel_rfl
 have u0 : (Go.part ((Tryz.prog.fieldsOf 40).getD 0 default).type #[.string a2, .int .i64 b2] ((Tryz.prog.fieldsOf 40).getD 0 default).offset).run Tryz.prog w = .ok (.string a2) w := by kernel_rfl
 have n0 : ((Tryz.prog.fieldsOf 40).getD 0 default).name ≠ "_" := by decide +kernel
 have e0 : (Op.equalIn (d + 2) ((Tryz.prog.fieldsOf 40).getD 0 default).type (.string a1) (.string a2)).run Tryz.prog w = .ok ((a1.toList == a2.toList)) w := run_equalIn_string w (d + 1) _ _ _ (by kernel_rfl)
 have h1 : (Go.part ((Tryz.prog.fieldsOf 40).getD 1 default).type #[.string a1, .int .i64 b1] ((Tryz.prog.fieldsOf 40).getD 1 default).offset).run Tryz.prog w = .ok (.int .i64 b1) w := by kernel_rfl
 have u1 : (Go.part ((Tryz.prog.fieldsOf 40).getD 1 default).type #[.string a2, .int .i64 b2] ((Tryz.prog.fieldsOf 40).getD 1 default).offset).run Tryz.prog w = .ok (.int .i64 b2) w := by kernel_rfl
 have n1 : ((Tryz.prog.fieldsOf 40).getD 1 default).name ≠ "_" := by decide +kernel
 have e1 : (Op.equalIn (d + 2) ((Tryz.prog.fieldsOf 40).getD 1 default).type (.int .i64 b1) (.int .i64 b2)).run Tryz.prog w = .ok ((b1 == b2)) w := run_equalIn_int w (d + 1) _ .i64 .i64 _ _ (by kernel_rfl)
 rw [hf]
 generalize (Tryz.prog.fieldsOf 40).getD 0 default = f0 at *
 generalize (Tryz.prog.fieldsOf 40).getD 1 default = f1 at *
 exact eqF_cons n0 h0 u0 e0 (eqF_cons n1 h1 u1 e1 (eqF_nil))
theorem cq_event (a1 : ByteArray) (b1 : Int) (c1 : Int) (a2 : ByteArray) (b2 : Int) (c2 : Int) (d : Nat) (w : World) : (Op.equalIn (d + 3) 48 (.agg #[.string a1, .int .i64 b1, .int .i64 c1]) (.agg #[.string a2, .int .i64 b2, .int .i64 c2])).run Tryz.prog w = .ok ((a1.toList == a2.toList) && ((b1 == b2) && ((c1 == c2) && true))) w := by
 have hf : Tryz.prog.fieldsOf 48 = #[(Tryz.prog.fieldsOf 48).getD 0 default, (Tryz.prog.fieldsOf 48).getD 1 default, (Tryz.prog.fieldsOf 48).getD 2 default] := by kernel_rfl
 rw [run_equalIn_struct (d := d + 2) w _ _ _ (by kernel_rfl) (by kernel_rfl)]
 have h0 : (Go.part ((Tryz.prog.fieldsOf 48).getD 0 default).type #[.string a1, .int .i64 b1, .int .i64 c1] ((Tryz.prog.fieldsOf 48).getD 0 default).offset).run Tryz.prog w = .ok (.string a1) w := by kernel_rfl
 have u0 : (Go.part ((Tryz.prog.fieldsOf 48).getD 0 default).type #[.string a2, .int .i64 b2, .int .i64 c2] ((Tryz.prog.fieldsOf 48).getD 0 default).offset).run Tryz.prog w = .ok (.string a2) w := by kernel_rfl
 have n0 : ((Tryz.prog.fieldsOf 48).getD 0 default).name ≠ "_" := by decide +kernel
 have e0 : (Op.equalIn (d + 2) ((Tryz.prog.fieldsOf 48).getD 0 default).type (.string a1) (.string a2)).run Tryz.prog w = .ok ((a1.toList == a2.toList)) w := run_equalIn_string w (d + 1) _ _ _ (by kernel_rfl)
 have h1 : (Go.part ((Tryz.prog.fieldsOf 48).getD 1 default).type #[.string a1, .int .i64 b1, .int .i64 c1] ((Tryz.prog.fieldsOf 48).getD 1 default).offset).run Tryz.prog w = .ok (.int .i64 b1) w := by kernel_rfl
 have u1 : (Go.part ((Tryz.prog.fieldsOf 48).getD 1 default).type #[.string a2, .int .i64 b2, .int .i64 c2] ((Tryz.prog.fieldsOf 48).getD 1 default).offset).run Tryz.prog w = .ok (.int .i64 b2) w := by kernel_rfl
 have n1 : ((Tryz.prog.fieldsOf 48).getD 1 default).name ≠ "_" := by decide +kernel
 have e1 : (Op.equalIn (d + 2) ((Tryz.prog.fieldsOf 48).getD 1 default).type (.int .i64 b1) (.int .i64 b2)).run Tryz.prog w = .ok ((b1 == b2)) w := run_equalIn_int w (d + 1) _ .i64 .i64 _ _ (by kernel_rfl)
 have h2 : (Go.part ((Tryz.prog.fieldsOf 48).getD 2 default).type #[.string a1, .int .i64 b1, .int .i64 c1] ((Tryz.prog.fieldsOf 48).getD 2 default).offset).run Tryz.prog w = .ok (.int .i64 c1) w := by kernel_rfl
 have u2 : (Go.part ((Tryz.prog.fieldsOf 48).getD 2 default).type #[.string a2, .int .i64 b2, .int .i64 c2] ((Tryz.prog.fieldsOf 48).getD 2 default).offset).run Tryz.prog w = .ok (.int .i64 c2) w := by kernel_rfl
 have n2 : ((Tryz.prog.fieldsOf 48).getD 2 default).name ≠ "_" := by decide +kernel
 have e2 : (Op.equalIn (d + 2) ((Tryz.prog.fieldsOf 48).getD 2 default).type (.int .i64 c1) (.int .i64 c2)).run Tryz.prog w = .ok ((c1 == c2)) w := run_equalIn_int w (d + 1) _ .i64 .i64 _ _ (by kernel_rfl)
 rw [hf]
 generalize (Tryz.prog.fieldsOf 48).getD 0 default = f0 at *
 generalize (Tryz.prog.fieldsOf 48).getD 1 default = f1 at *
 generalize (Tryz.prog.fieldsOf 48).getD 2 default = f2 at *
 exact eqF_cons n0 h0 u0 e0 (eqF_cons n1 h1 u1 e1 (eqF_cons n2 h2 u2 e2 (eqF_nil)))
theorem cq_link (a1 : ByteArray) (b1 : ByteArray) (c1 : ByteArray) (p1 : Int) (q1 : Int) (a2 : ByteArray) (b2 : ByteArray) (c2 : ByteArray) (p2 : Int) (q2 : Int) (d : Nat) (w : World) : (Op.equalIn (d + 3) 42 (.agg #[.string a1, .string b1, .string c1, .int .i64 p1, .int .i64 q1]) (.agg #[.string a2, .string b2, .string c2, .int .i64 p2, .int .i64 q2])).run Tryz.prog w = .ok ((a1.toList == a2.toList) && ((b1.toList == b2.toList) && ((c1.toList == c2.toList) && ((p1 == p2) && ((q1 == q2) && true))))) w := by
 have hf : Tryz.prog.fieldsOf 42 = #[(Tryz.prog.fieldsOf 42).getD 0 default, (Tryz.prog.fieldsOf 42).getD 1 default, (Tryz.prog.fieldsOf 42).getD 2 default, (Tryz.prog.fieldsOf 42).getD 3 default, (Tryz.prog.fieldsOf 42).getD 4 default] := by kernel_rfl
 rw [run_equalIn_struct (d := d + 2) w _ _ _ (by kernel_rfl) (by kernel_rfl)]
 have h0 : (Go.part ((Tryz.prog.fieldsOf 42).getD 0 default).type #[.string a1, .string b1, .string c1, .int .i64 p1, .int .i64 q1] ((Tryz.prog.fieldsOf 42).getD 0 default).offset).run Tryz.prog w = .ok (.string a1) w := by kernel_rfl
 have u0 : (Go.part ((Tryz.prog.fieldsOf 42).getD 0 default).type #[.string a2, .string b2, .string c2, .int .i64 p2, .int .i64 q2] ((Tryz.prog.fieldsOf 42).getD 0 default).offset).run Tryz.prog w = .ok (.string a2) w := by kernel_rfl
 have n0 : ((Tryz.prog.fieldsOf 42).getD 0 default).name ≠ "_" := by decide +kernel
 have e0 : (Op.equalIn (d + 2) ((Tryz.prog.fieldsOf 42).getD 0 default).type (.string a1) (.string a2)).run Tryz.prog w = .ok ((a1.toList == a2.toList)) w := run_equalIn_string w (d + 1) _ _ _ (by kernel_rfl)
 have h1 : (Go.part ((Tryz.prog.fieldsOf 42).getD 1 default).type #[.string a1, .string b1, .string c1, .int .i64 p1, .int .i64 q1] ((Tryz.prog.fieldsOf 42).getD 1 default).offset).run Tryz.prog w = .ok (.string b1) w := by kernel_rfl
 have u1 : (Go.part ((Tryz.prog.fieldsOf 42).getD 1 default).type #[.string a2, .string b2, .string c2, .int .i64 p2, .int .i64 q2] ((Tryz.prog.fieldsOf 42).getD 1 default).offset).run Tryz.prog w = .ok (.string b2) w := by kernel_rfl
 have n1 : ((Tryz.prog.fieldsOf 42).getD 1 default).name ≠ "_" := by decide +kernel
 have e1 : (Op.equalIn (d + 2) ((Tryz.prog.fieldsOf 42).getD 1 default).type (.string b1) (.string b2)).run Tryz.prog w = .ok ((b1.toList == b2.toList)) w := run_equalIn_string w (d + 1) _ _ _ (by kernel_rfl)
 have h2 : (Go.part ((Tryz.prog.fieldsOf 42).getD 2 default).type #[.string a1, .string b1, .string c1, .int .i64 p1, .int .i64 q1] ((Tryz.prog.fieldsOf 42).getD 2 default).offset).run Tryz.prog w = .ok (.string c1) w := by kernel_rfl
 have u2 : (Go.part ((Tryz.prog.fieldsOf 42).getD 2 default).type #[.string a2, .string b2, .string c2, .int .i64 p2, .int .i64 q2] ((Tryz.prog.fieldsOf 42).getD 2 default).offset).run Tryz.prog w = .ok (.string c2) w := by kernel_rfl
 have n2 : ((Tryz.prog.fieldsOf 42).getD 2 default).name ≠ "_" := by decide +kernel
 have e2 : (Op.equalIn (d + 2) ((Tryz.prog.fieldsOf 42).getD 2 default).type (.string c1) (.string c2)).run Tryz.prog w = .ok ((c1.toList == c2.toList)) w := run_equalIn_string w (d + 1) _ _ _ (by kernel_rfl)
 have h3 : (Go.part ((Tryz.prog.fieldsOf 42).getD 3 default).type #[.string a1, .string b1, .string c1, .int .i64 p1, .int .i64 q1] ((Tryz.prog.fieldsOf 42).getD 3 default).offset).run Tryz.prog w = .ok (.int .i64 p1) w := by kernel_rfl
 have u3 : (Go.part ((Tryz.prog.fieldsOf 42).getD 3 default).type #[.string a2, .string b2, .string c2, .int .i64 p2, .int .i64 q2] ((Tryz.prog.fieldsOf 42).getD 3 default).offset).run Tryz.prog w = .ok (.int .i64 p2) w := by kernel_rfl
 have n3 : ((Tryz.prog.fieldsOf 42).getD 3 default).name ≠ "_" := by decide +kernel
 have e3 : (Op.equalIn (d + 2) ((Tryz.prog.fieldsOf 42).getD 3 default).type (.int .i64 p1) (.int .i64 p2)).run Tryz.prog w = .ok ((p1 == p2)) w := run_equalIn_int w (d + 1) _ .i64 .i64 _ _ (by kernel_rfl)
 have h4 : (Go.part ((Tryz.prog.fieldsOf 42).getD 4 default).type #[.string a1, .string b1, .string c1, .int .i64 p1, .int .i64 q1] ((Tryz.prog.fieldsOf 42).getD 4 default).offset).run Tryz.prog w = .ok (.int .i64 q1) w := by kernel_rfl
 have u4 : (Go.part ((Tryz.prog.fieldsOf 42).getD 4 default).type #[.string a2, .string b2, .string c2, .int .i64 p2, .int .i64 q2] ((Tryz.prog.fieldsOf 42).getD 4 default).offset).run Tryz.prog w = .ok (.int .i64 q2) w := by kernel_rfl
 have n4 : ((Tryz.prog.fieldsOf 42).getD 4 default).name ≠ "_" := by decide +kernel
 have e4 : (Op.equalIn (d + 2) ((Tryz.prog.fieldsOf 42).getD 4 default).type (.int .i64 q1) (.int .i64 q2)).run Tryz.prog w = .ok ((q1 == q2)) w := run_equalIn_int w (d + 1) _ .i64 .i64 _ _ (by kernel_rfl)
 rw [hf]
 generalize (Tryz.prog.fieldsOf 42).getD 0 default = f0 at *
 generalize (Tryz.prog.fieldsOf 42).getD 1 default = f1 at *
 generalize (Tryz.prog.fieldsOf 42).getD 2 default = f2 at *
 generalize (Tryz.prog.fieldsOf 42).getD 3 default = f3 at *
 generalize (Tryz.prog.fieldsOf 42).getD 4 default = f4 at *
 exact eqF_cons n0 h0 u0 e0 (eqF_cons n1 h1 u1 e1 (eqF_cons n2 h2 u2 e2 (eqF_cons n3 h3 u3 e3 (eqF_cons n4 h4 u4 e4 (eqF_nil)))))
theorem cq_arg (p1 : Int) (q1 : Int) (c1 : ByteArray) (p2 : Int) (q2 : Int) (c2 : ByteArray) (d : Nat) (w : World) : (Op.equalIn (d + 3) 36 (.agg #[.int .i64 p1, .int .i64 q1, .string c1]) (.agg #[.int .i64 p2, .int .i64 q2, .string c2])).run Tryz.prog w = .ok ((p1 == p2) && ((q1 == q2) && ((c1.toList == c2.toList) && true))) w := by
 have hf : Tryz.prog.fieldsOf 36 = #[(Tryz.prog.fieldsOf 36).getD 0 default, (Tryz.prog.fieldsOf 36).getD 1 default, (Tryz.prog.fieldsOf 36).getD 2 default] := by kernel_rfl
 rw [run_equalIn_struct (d := d + 2) w _ _ _ (by kernel_rfl) (by kernel_rfl)]
 have h0 : (Go.part ((Tryz.prog.fieldsOf 36).getD 0 default).type #[.int .i64 p1, .int .i64 q1, .string c1] ((Tryz.prog.fieldsOf 36).getD 0 default).offset).run Tryz.prog w = .ok (.int .i64 p1) w := by kernel_rfl
 have u0 : (Go.part ((Tryz.prog.fieldsOf 36).getD 0 default).type #[.int .i64 p2, .int .i64 q2, .string c2] ((Tryz.prog.fieldsOf 36).getD 0 default).offset).run Tryz.prog w = .ok (.int .i64 p2) w := by kernel_rfl
 have n0 : ((Tryz.prog.fieldsOf 36).getD 0 default).name ≠ "_" := by decide +kernel
 have e0 : (Op.equalIn (d + 2) ((Tryz.prog.fieldsOf 36).getD 0 default).type (.int .i64 p1) (.int .i64 p2)).run Tryz.prog w = .ok ((p1 == p2)) w := run_equalIn_int w (d + 1) _ .i64 .i64 _ _ (by kernel_rfl)
 have h1 : (Go.part ((Tryz.prog.fieldsOf 36).getD 1 default).type #[.int .i64 p1, .int .i64 q1, .string c1] ((Tryz.prog.fieldsOf 36).getD 1 default).offset).run Tryz.prog w = .ok (.int .i64 q1) w := by kernel_rfl
 have u1 : (Go.part ((Tryz.prog.fieldsOf 36).getD 1 default).type #[.int .i64 p2, .int .i64 q2, .string c2] ((Tryz.prog.fieldsOf 36).getD 1 default).offset).run Tryz.prog w = .ok (.int .i64 q2) w := by kernel_rfl
 have n1 : ((Tryz.prog.fieldsOf 36).getD 1 default).name ≠ "_" := by decide +kernel
 have e1 : (Op.equalIn (d + 2) ((Tryz.prog.fieldsOf 36).getD 1 default).type (.int .i64 q1) (.int .i64 q2)).run Tryz.prog w = .ok ((q1 == q2)) w := run_equalIn_int w (d + 1) _ .i64 .i64 _ _ (by kernel_rfl)
 have h2 : (Go.part ((Tryz.prog.fieldsOf 36).getD 2 default).type #[.int .i64 p1, .int .i64 q1, .string c1] ((Tryz.prog.fieldsOf 36).getD 2 default).offset).run Tryz.prog w = .ok (.string c1) w := by kernel_rfl
 have u2 : (Go.part ((Tryz.prog.fieldsOf 36).getD 2 default).type #[.int .i64 p2, .int .i64 q2, .string c2] ((Tryz.prog.fieldsOf 36).getD 2 default).offset).run Tryz.prog w = .ok (.string c2) w := by kernel_rfl
 have n2 : ((Tryz.prog.fieldsOf 36).getD 2 default).name ≠ "_" := by decide +kernel
 have e2 : (Op.equalIn (d + 2) ((Tryz.prog.fieldsOf 36).getD 2 default).type (.string c1) (.string c2)).run Tryz.prog w = .ok ((c1.toList == c2.toList)) w := run_equalIn_string w (d + 1) _ _ _ (by kernel_rfl)
 rw [hf]
 generalize (Tryz.prog.fieldsOf 36).getD 0 default = f0 at *
 generalize (Tryz.prog.fieldsOf 36).getD 1 default = f1 at *
 generalize (Tryz.prog.fieldsOf 36).getD 2 default = f2 at *
 exact eqF_cons n0 h0 u0 e0 (eqF_cons n1 h1 u1 e1 (eqF_cons n2 h2 u2 e2 (eqF_nil)))
theorem cq_step (k1 : Int) (a1 : ByteArray) (p1 : Int) (q1 : Int) (c1 : ByteArray) (k2 : Int) (a2 : ByteArray) (p2 : Int) (q2 : Int) (c2 : ByteArray) (d : Nat) (w : World) : (Op.equalIn (d + 4) 38 (.agg #[.int .i64 k1, .string a1, .int .i64 p1, .int .i64 q1, .string c1]) (.agg #[.int .i64 k2, .string a2, .int .i64 p2, .int .i64 q2, .string c2])).run Tryz.prog w = .ok ((k1 == k2) && ((a1.toList == a2.toList) && (((p1 == p2) && ((q1 == q2) && ((c1.toList == c2.toList) && true))) && true))) w := by
 have hf : Tryz.prog.fieldsOf 38 = #[(Tryz.prog.fieldsOf 38).getD 0 default, (Tryz.prog.fieldsOf 38).getD 1 default, (Tryz.prog.fieldsOf 38).getD 2 default] := by kernel_rfl
 rw [run_equalIn_struct (d := d + 3) w _ _ _ (by kernel_rfl) (by kernel_rfl)]
 have h0 : (Go.part ((Tryz.prog.fieldsOf 38).getD 0 default).type #[.int .i64 k1, .string a1, .int .i64 p1, .int .i64 q1, .string c1] ((Tryz.prog.fieldsOf 38).getD 0 default).offset).run Tryz.prog w = .ok (.int .i64 k1) w := by kernel_rfl
 have u0 : (Go.part ((Tryz.prog.fieldsOf 38).getD 0 default).type #[.int .i64 k2, .string a2, .int .i64 p2, .int .i64 q2, .string c2] ((Tryz.prog.fieldsOf 38).getD 0 default).offset).run Tryz.prog w = .ok (.int .i64 k2) w := by kernel_rfl
 have n0 : ((Tryz.prog.fieldsOf 38).getD 0 default).name ≠ "_" := by decide +kernel
 have e0 : (Op.equalIn (d + 3) ((Tryz.prog.fieldsOf 38).getD 0 default).type (.int .i64 k1) (.int .i64 k2)).run Tryz.prog w = .ok ((k1 == k2)) w := run_equalIn_int w (d + 2) _ .i64 .i64 _ _ (by kernel_rfl)
 have h1 : (Go.part ((Tryz.prog.fieldsOf 38).getD 1 default).type #[.int .i64 k1, .string a1, .int .i64 p1, .int .i64 q1, .string c1] ((Tryz.prog.fieldsOf 38).getD 1 default).offset).run Tryz.prog w = .ok (.string a1) w := by kernel_rfl
 have u1 : (Go.part ((Tryz.prog.fieldsOf 38).getD 1 default).type #[.int .i64 k2, .string a2, .int .i64 p2, .int .i64 q2, .string c2] ((Tryz.prog.fieldsOf 38).getD 1 default).offset).run Tryz.prog w = .ok (.string a2) w := by kernel_rfl
 have n1 : ((Tryz.prog.fieldsOf 38).getD 1 default).name ≠ "_" := by decide +kernel
 have e1 : (Op.equalIn (d + 3) ((Tryz.prog.fieldsOf 38).getD 1 default).type (.string a1) (.string a2)).run Tryz.prog w = .ok ((a1.toList == a2.toList)) w := run_equalIn_string w (d + 2) _ _ _ (by kernel_rfl)
 have h2 : (Go.part ((Tryz.prog.fieldsOf 38).getD 2 default).type #[.int .i64 k1, .string a1, .int .i64 p1, .int .i64 q1, .string c1] ((Tryz.prog.fieldsOf 38).getD 2 default).offset).run Tryz.prog w = .ok (.agg #[.int .i64 p1, .int .i64 q1, .string c1]) w := by kernel_rfl
 have u2 : (Go.part ((Tryz.prog.fieldsOf 38).getD 2 default).type #[.int .i64 k2, .string a2, .int .i64 p2, .int .i64 q2, .string c2] ((Tryz.prog.fieldsOf 38).getD 2 default).offset).run Tryz.prog w = .ok (.agg #[.int .i64 p2, .int .i64 q2, .string c2]) w := by kernel_rfl
 have n2 : ((Tryz.prog.fieldsOf 38).getD 2 default).name ≠ "_" := by decide +kernel
 have e2 : (Op.equalIn (d + 3) ((Tryz.prog.fieldsOf 38).getD 2 default).type (.agg #[.int .i64 p1, .int .i64 q1, .string c1]) (.agg #[.int .i64 p2, .int .i64 q2, .string c2])).run Tryz.prog w = .ok (((p1 == p2) && ((q1 == q2) && ((c1.toList == c2.toList) && true)))) w := by have ht : ((Tryz.prog.fieldsOf 38).getD 2 default).type = 36 := (by kernel_rfl); rw [ht]; exact cq_arg p1 q1 c1 p2 q2 c2 (d + 0) w
 rw [hf]
 generalize (Tryz.prog.fieldsOf 38).getD 0 default = f0 at *
 generalize (Tryz.prog.fieldsOf 38).getD 1 default = f1 at *
 generalize (Tryz.prog.fieldsOf 38).getD 2 default = f2 at *
 exact eqF_cons n0 h0 u0 e0 (eqF_cons n1 h1 u1 e1 (eqF_cons n2 h2 u2 e2 (eqF_nil)))
noncomputable def eqV (o u : V) : Bool := @decide (o = u) (Classical.propDecidable _)
theorem eqV_iff {o u : V} : eqV o u = true ↔ o = u := by unfold eqV; exact @decide_eq_true_iff _ (Classical.propDecidable _)
theorem eqV_refl (o : V) : eqV o o = true := eqV_iff.2 rfl
theorem eqlV (o u : V) (w : World) : (binOp .eql 40 (.agg #[.string o.name, .int .i64 o.init]) (.agg #[.string u.name, .int .i64 u.init])).run Tryz.prog w = .ok (.bool (eqV o u)) w := by
 rw [run_eql_struct, show (10000 : Nat) = 9997 + 3 from rfl, cq_var o.name o.init u.name u.init 9997 w]
 simp only [Result.andThen_ok]
 congr 2
 rw [Bool.eq_iff_iff, eqV_iff]
 obtain ⟨o0, o1⟩ := o
 obtain ⟨u0, u1⟩ := u
 simp [ByteArray.toList_eq, ByteArray.ext_iff, and_assoc, V.mk.injEq]
theorem neqV (o u : V) (w : World) : (binOp .neq 40 (.agg #[.string o.name, .int .i64 o.init]) (.agg #[.string u.name, .int .i64 u.init])).run Tryz.prog w = .ok (.bool (!eqV o u)) w := by
 rw [run_neq_struct, show (10000 : Nat) = 9997 + 3 from rfl, cq_var o.name o.init u.name u.init 9997 w]
 simp only [Result.andThen_ok]
 congr 2
 congr 1
 rw [Bool.eq_iff_iff, eqV_iff]
 obtain ⟨o0, o1⟩ := o
 obtain ⟨u0, u1⟩ := u
 simp [ByteArray.toList_eq, ByteArray.ext_iff, and_assoc, V.mk.injEq]
noncomputable def eqE (o u : Ev) : Bool := @decide (o = u) (Classical.propDecidable _)
theorem eqE_iff {o u : Ev} : eqE o u = true ↔ o = u := by unfold eqE; exact @decide_eq_true_iff _ (Classical.propDecidable _)
theorem eqE_refl (o : Ev) : eqE o o = true := eqE_iff.2 rfl
theorem eqlE (o u : Ev) (w : World) : (binOp .eql 48 (.agg #[.string o.to, .int .i64 o.at_, .int .i64 o.value]) (.agg #[.string u.to, .int .i64 u.at_, .int .i64 u.value])).run Tryz.prog w = .ok (.bool (eqE o u)) w := by
 rw [run_eql_struct, show (10000 : Nat) = 9997 + 3 from rfl, cq_event o.to o.at_ o.value u.to u.at_ u.value 9997 w]
 simp only [Result.andThen_ok]
 congr 2
 rw [Bool.eq_iff_iff, eqE_iff]
 obtain ⟨o0, o1, o2⟩ := o
 obtain ⟨u0, u1, u2⟩ := u
 simp [ByteArray.toList_eq, ByteArray.ext_iff, and_assoc, Ev.mk.injEq]
theorem neqE (o u : Ev) (w : World) : (binOp .neq 48 (.agg #[.string o.to, .int .i64 o.at_, .int .i64 o.value]) (.agg #[.string u.to, .int .i64 u.at_, .int .i64 u.value])).run Tryz.prog w = .ok (.bool (!eqE o u)) w := by
 rw [run_neq_struct, show (10000 : Nat) = 9997 + 3 from rfl, cq_event o.to o.at_ o.value u.to u.at_ u.value 9997 w]
 simp only [Result.andThen_ok]
 congr 2
 congr 1
 rw [Bool.eq_iff_iff, eqE_iff]
 obtain ⟨o0, o1, o2⟩ := o
 obtain ⟨u0, u1, u2⟩ := u
 simp [ByteArray.toList_eq, ByteArray.ext_iff, and_assoc, Ev.mk.injEq]
noncomputable def eqL (o u : Lk) : Bool := @decide (o = u) (Classical.propDecidable _)
theorem eqL_iff {o u : Lk} : eqL o u = true ↔ o = u := by unfold eqL; exact @decide_eq_true_iff _ (Classical.propDecidable _)
theorem eqL_refl (o : Lk) : eqL o o = true := eqL_iff.2 rfl
theorem eqlL (o u : Lk) (w : World) : (binOp .eql 42 (.agg #[.string o.name, .string o.src, .string o.dst, .int .i64 o.delay, .int .i64 o.weight]) (.agg #[.string u.name, .string u.src, .string u.dst, .int .i64 u.delay, .int .i64 u.weight])).run Tryz.prog w = .ok (.bool (eqL o u)) w := by
 rw [run_eql_struct, show (10000 : Nat) = 9997 + 3 from rfl, cq_link o.name o.src o.dst o.delay o.weight u.name u.src u.dst u.delay u.weight 9997 w]
 simp only [Result.andThen_ok]
 congr 2
 rw [Bool.eq_iff_iff, eqL_iff]
 obtain ⟨o0, o1, o2, o3, o4⟩ := o
 obtain ⟨u0, u1, u2, u3, u4⟩ := u
 simp [ByteArray.toList_eq, ByteArray.ext_iff, and_assoc, Lk.mk.injEq]
theorem neqL (o u : Lk) (w : World) : (binOp .neq 42 (.agg #[.string o.name, .string o.src, .string o.dst, .int .i64 o.delay, .int .i64 o.weight]) (.agg #[.string u.name, .string u.src, .string u.dst, .int .i64 u.delay, .int .i64 u.weight])).run Tryz.prog w = .ok (.bool (!eqL o u)) w := by
 rw [run_neq_struct, show (10000 : Nat) = 9997 + 3 from rfl, cq_link o.name o.src o.dst o.delay o.weight u.name u.src u.dst u.delay u.weight 9997 w]
 simp only [Result.andThen_ok]
 congr 2
 congr 1
 rw [Bool.eq_iff_iff, eqL_iff]
 obtain ⟨o0, o1, o2, o3, o4⟩ := o
 obtain ⟨u0, u1, u2, u3, u4⟩ := u
 simp [ByteArray.toList_eq, ByteArray.ext_iff, and_assoc, Lk.mk.injEq]
noncomputable def eqS (o u : S) : Bool := @decide (o = u) (Classical.propDecidable _)
theorem eqS_iff {o u : S} : eqS o u = true ↔ o = u := by unfold eqS; exact @decide_eq_true_iff _ (Classical.propDecidable _)
theorem eqS_refl (o : S) : eqS o o = true := eqS_iff.2 rfl
theorem eqlS (o u : S) (w : World) : (binOp .eql 38 (.agg #[.int .i64 o.kind, .string o.name, .int .i64 o.ak, .int .i64 o.an, .string o.as_]) (.agg #[.int .i64 u.kind, .string u.name, .int .i64 u.ak, .int .i64 u.an, .string u.as_])).run Tryz.prog w = .ok (.bool (eqS o u)) w := by
 rw [run_eql_struct, show (10000 : Nat) = 9996 + 4 from rfl, cq_step o.kind o.name o.ak o.an o.as_ u.kind u.name u.ak u.an u.as_ 9996 w]
 simp only [Result.andThen_ok]
 congr 2
 rw [Bool.eq_iff_iff, eqS_iff]
 obtain ⟨o0, o1, o2, o3, o4⟩ := o
 obtain ⟨u0, u1, u2, u3, u4⟩ := u
 simp [ByteArray.toList_eq, ByteArray.ext_iff, and_assoc, S.mk.injEq]
theorem neqS (o u : S) (w : World) : (binOp .neq 38 (.agg #[.int .i64 o.kind, .string o.name, .int .i64 o.ak, .int .i64 o.an, .string o.as_]) (.agg #[.int .i64 u.kind, .string u.name, .int .i64 u.ak, .int .i64 u.an, .string u.as_])).run Tryz.prog w = .ok (.bool (!eqS o u)) w := by
 rw [run_neq_struct, show (10000 : Nat) = 9996 + 4 from rfl, cq_step o.kind o.name o.ak o.an o.as_ u.kind u.name u.ak u.an u.as_ 9996 w]
 simp only [Result.andThen_ok]
 congr 2
 congr 1
 rw [Bool.eq_iff_iff, eqS_iff]
 obtain ⟨o0, o1, o2, o3, o4⟩ := o
 obtain ⟨u0, u1, u2, u3, u4⟩ := u
 simp [ByteArray.toList_eq, ByteArray.ext_iff, and_assoc, S.mk.injEq]
end Go.Proofs.YtniocgnfgpaioaaGreat.Mo
end
