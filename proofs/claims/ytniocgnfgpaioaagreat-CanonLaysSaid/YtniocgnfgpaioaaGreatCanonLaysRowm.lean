/- The row of the statement CanonLays: for every input the law returns true, and each argument reads afterwards as before. No further condition. -/
import Derived.Test.YtniocgnfgpaioaaGreatRows
import Derived.Test.YtniocgnfgpaioaaGreatG42
import Derived.WalkKit
import Derived.ProofKit
import Derived.OpenShut
import Derived.ShutString
import Derived.ChangeOld
import Derived.Below
import Derived.SizedLaws
set_option linter.unusedVariables false
set_option linter.unusedSimpArgs false
namespace Go.Proofs.YtniocgnfgpaioaaGreat.canonLays
open Go.ChangeShapes Go.WideShapes Go.ChangeAt Go.RowKit
open Go.ChangeMaps (open_string shut_string)
theorem own : ownKnob Tryz.prog.godebug = none := by kernel_rfl
theorem laidOut : laidOutB Tryz.prog = true := by kernel_rfl
set_option maxRecDepth 100000 in
theorem lifted (os : Os) (started : os.Started) (H : Type) (enc : TypeId × Value → H) :
  ReturnsInHanded {} Tryz.checked os 3 .any (Rows.canonLaysSpec.pre6 enc Tryz.prog Tryz.f3 Rows.canonLaysRow.domain false) (Rows.canonLaysSpec.post enc Tryz.prog Tryz.f3 false true false false) := by
 refine returnsInHanded_of_change_sized (C := Tryz.checked) own started (by kernel_rfl) Tryz.func3
  (ChangeSpec.witness6 (enc := enc) (C := Tryz.checked) false ⟨#[], #[.agg #[.int .i64 0, .slice none 0 0, .slice none 0 0, .slice none 0 0], .agg #[.int .i64 0, .slice none 0 0, .slice none 0 0, .slice none 0 0]], []⟩ 8 (by kernel_rfl) (by kernel_rfl) (by kernel_rfl) (by kernel_rfl)) ?_
 intro W base args ds gs before hval0 hW hcnd hsz0 _
 have hsz : (DataW.weightsEach Tryz.prog (Tryz.f3.params.toList ++ Rows.canonLaysSpec.plain.varTypes Tryz.prog) (ds ++ gs)).all (· ≤ reachBytes) = true := hsz0
 have hval : ∀ (j : Nat) t v, Tryz.f3.params[j]? = some t → args[j]? = some v → Value.okWide Tryz.prog W .any base t v := hval0
 have hW' := hW
 obtain ⟨p, q, hA0, hV, rfl, hfz, hnd⟩ := hW
 have hA : DataW.TrodAll enc Tryz.prog W 0 (fun _ => true) true Tryz.f3.params.toList args.toList ds p := hA0
 rw [Tryz.params3] at hA hval hsz
 obtain ⟨v0, vs0, d0, ds0, p0, q0, hargs, rfl, rfl, h0, r0⟩ := trodAll_cons hA
 obtain ⟨v1, vs1, d1, ds1, p1, q1, rfl, rfl, rfl, h1, r1⟩ := trodAll_cons r0
 obtain ⟨rfl, rfl, rfl⟩ := trodAll_nil r1
 obtain rfl : args = #[v0, v1] := by cases args; simp_all
 obtain ⟨rfl, rfl⟩ := trodVars_none hV
 have k0 := h0
 have lt0 : ∀ x ∈ p0, x.block < W.heap.size := by obtain ⟨m, hm⟩ := k0; exact DataW.trod_lt m _ _ _ hm
 have k1 := h1
 have lt1 : ∀ x ∈ p1, x.block < W.heap.size := by obtain ⟨m, hm⟩ := k1; exact DataW.trod_lt m _ _ _ hm
 obtain ⟨c0, rfl, hc0s⟩ := okWide_struct Tryz.underlying26 (hval 0 26 v0 rfl rfl)
 obtain ⟨m0x, hcs0, hm0x, ho0x⟩ : ∃ m : Mo.Md, c0.toList = [.int .i64 m.version, .slice m.pa m.ps.length m.pc, .slice m.la m.ls.length m.lc, .slice m.ea m.es.length m.ec] ∧ Mo.RModel W m ∧ Mo.OkM m := by
  obtain ⟨fuel, hf⟩ := h0
  exact Mo.model_openM (by simpa [Value.cells] using hf)
 obtain rfl : c0 = #[.int .i64 m0x.version, .slice m0x.pa m0x.ps.length m0x.pc, .slice m0x.la m0x.ls.length m0x.lc, .slice m0x.ea m0x.es.length m0x.ec] := by cases c0; simp_all
 obtain ⟨c1, rfl, hc1s⟩ := okWide_struct Tryz.underlying26 (hval 1 26 v1 rfl rfl)
 obtain ⟨m1x, hcs1, hm1x, ho1x⟩ : ∃ m : Mo.Md, c1.toList = [.int .i64 m.version, .slice m.pa m.ps.length m.pc, .slice m.la m.ls.length m.lc, .slice m.ea m.es.length m.ec] ∧ Mo.RModel W m ∧ Mo.OkM m := by
  obtain ⟨fuel, hf⟩ := h1
  exact Mo.model_openM (by simpa [Value.cells] using hf)
 obtain rfl : c1 = #[.int .i64 m1x.version, .slice m1x.pa m1x.ps.length m1x.pc, .slice m1x.la m1x.ls.length m1x.lc, .slice m1x.ea m1x.es.length m1x.ec] := by cases c1; simp_all
 clear hA0 hval0 hsz0 hsz
 refine (Mo.CanonLays_calls m0x m1x W hm0x ho0x hm1x ho1x).mono fun e W' ⟨he, bel⟩ => ?_
 subst he
 exact ⟨_, rfl, _, _, _, [], _, [], hW', trodAll_mk1 (shut_bool Tryz.underlying4 _), (trodAll_cons_mk (Below.trod laidOut (by kernel_rfl) (of_decide_eq_true (by kernel_rfl)) k0 bel lt0) (trodAll_cons_mk (Below.trod laidOut (by kernel_rfl) (of_decide_eq_true (by kernel_rfl)) k1 bel lt1) trodAll_mk0)), rfl, bel.frame _, fun h => by cases h⟩
theorem over : Rows.canonLaysRow.holds Tryz.pinned (OpenSpec.ofChange Rows.canonLaysSpec) :=
 OpenClaim.holds_of_wide 3 Tryz.f3 rfl rfl rfl rfl rfl rfl rfl ⟨rfl, rfl, rfl, rfl, rfl⟩ rfl rfl rfl rfl rfl (by kernel_rfl) Tryz.func3 (by kernel_rfl)
  (of_decide_eq_true (by kernel_rfl)) (by unfold Func.isWrapper; first | (rw [if_pos (by decide +kernel)]; kernel_rfl) | (rw [if_neg (by decide +kernel)]; exact ⟨rfl, rfl⟩))
  (fun os started H enc _ => lifted os started H enc)
theorem proved : Rows.CanonLaysSaid := over
#print axioms proved
end Go.Proofs.YtniocgnfgpaioaaGreat.canonLays
namespace Go.Proofs.YtniocgnfgpaioaaGreat
/-- The row, under a short name, for the claim. -/
theorem canonLays_holds : Rows.CanonLaysSaid := canonLays.proved
end Go.Proofs.YtniocgnfgpaioaaGreat
