/- The walks of model.Var and sandtableref15.Var. -/
import Derived.Test.YthgbahlkflmgiaaProg
import Derived.Test.YthgbahlkflmgiaaModel
import Derived.Test.YthgbahlkflmgiaaScBase
import Derived.Lib.Hide
import Derived.Deep.QuietTactic
import Derived.WalkKit
import Derived.WalkSpells
import Derived.WalkLawsBesides
import Derived.IntWalk
import Derived.BigRegion
import Derived.RegionTactic
import Derived.LoopTactic
import Derived.Deep.LoopGhost
import Derived.BigQuiet
import Derived.Deep.RegionHeld3
namespace Go.Proofs.Ythgbahlkflmgiaa.Mo
open Go Go.RowKit Go.Proofs.Ythgbahlkflmgiaa.Lb
set_option linter.unusedVariables false
set_option linter.unusedSimpArgs false

set_option maxHeartbeats 1000000 in
theorem isName_is (v : V) (bx : Nat) (s : ByteArray) (w : World) (hb : w.cell? ⟨bx, 0, none⟩ = some (.string s)) :
    Calls Try.prog 68 #[v.val, .pointer (some ⟨bx, 0, none⟩)] w fun e w' => e = .returned (.bool (v.name.toList == s.toList)) ∧ Kept Nil w w' := by
  obtain ⟨name, init⟩ := v
  have hlt := World.block_lt_of_cell? _ _ hb
  unfold V.val
  go_enter Try.func68, Try.ntmps68
  go_wp2
  go_ret
  exact ⟨rfl, (by (repeat (first | exact Kept.refl _ _ | refine Kept.drew ?_ | refine Kept.alloc ?_ _)))⟩
set_option maxHeartbeats 2000000 in
theorem IndexFunc_is (vs : List V) (A : Option Addr) (cap bx : Nat) (s : ByteArray) (w : World) (hr : RVars w A vs) (hb : w.cell? ⟨bx, 0, none⟩ = some (.string s)) (hm : vs.length ≤ 9223372036854775807) :
    Calls Try.prog 67 #[.slice A vs.length cap, .func (.func 68) #[] #[.pointer (some ⟨bx, 0, none⟩)]] w fun e w' => e = .returned (.int .i64 (varIx vs s)) ∧ Kept Nil w w' := by
  have HR := Lib.hid hr
  have HB := Lib.hid hb
  clear hr hb
  go_enter Try.func67, Try.ntmps67
  go_wp2_with fail
  go_loopw [8] (fun i wr => ∃ k : Nat, k ≤ vs.length ∧ i = .int .i64 k ∧ (∀ j v, j < k → vs[j]? = some v → v.name.toList ≠ s.toList) ∧ Kept Nil w wr) (fun i _ => vs.length - (intOf i).toNat)
  case atStart => exact ⟨0, Nat.zero_le _, rfl, fun j v h => by omega, Kept.refl _ _⟩
  case round =>
    obtain ⟨k, hk, rfl, hne, hK⟩ := hrel
    have HNE := Lib.hid hne
    have HK := Lib.hid hK
    clear hne hK
    by_cases hlt : k < vs.length
    · obtain ⟨v, ev⟩ : ∃ v, vs[k]? = some v := ⟨_, List.getElem?_eq_getElem hlt⟩
      obtain ⟨b, off, rfl, c0, c1⟩ := (HR.out.kept HK.out (fun _ _ _ _ h => h)).at ev
      have HEV := Lib.hid ev
      clear ev
      have hel := HB.out
      go_wp2_with fail
      refine (isName_is v bx s wr (HK.out.cell HB.out (fun h => h))).mono ?_
      rintro e w1 ⟨rfl, hk1⟩
      have HK1 := Lib.hid (HK.out.step hk1)
      clear hk1 hel
      by_cases hn : v.name.toList = s.toList
      · have hb : (v.name.toList == s.toList) = true := by simp [hn]
        have HV := Lib.hid (varIx_some HNE.out HEV.out hn)
        clear hn
        go_wp2_with fail
        go_ret
        exact ⟨by rw [HV.out]; rfl, HK1.out⟩
      · have hb : (v.name.toList == s.toList) = false := by simp [hn]
        have HN := Lib.hid hn
        clear hn
        go_wp2_with fail
        go_round
        case measure => (simp [intOf] <;> omega)
        refine ⟨k + 1, by omega, by go_num, fun j u hj hu => ?_, HK1.out⟩
        by_cases e : j = k
        · subst e
          rw [HEV.out] at hu; cases hu
          exact HN.out
        · exact HNE.out j u (by omega) hu
    · obtain rfl : k = vs.length := by omega
      have HV := Lib.hid (varIx_none (fun i v hi => HNE.out i v (List.getElem?_eq_some_iff.1 hi).1 hi))
      go_wp2_with fail
      go_ret
      exact ⟨by rw [HV.out]; rfl, HK.out⟩
/-- A process. -/
structure Pr where
  name : ByteArray
  weight : Int
  va : Option Addr
  vs : List V
  vc : Nat
  sa : Option Addr
  ss : List S
  sc : Nat
def Pr.val (p : Pr) : Value := .agg #[.string p.name, .int .i64 p.weight, .slice p.va p.vs.length p.vc, .slice p.sa p.ss.length p.sc]
structure RProc (w : World) (p : Pr) : Prop where
  v : RVars w p.va p.vs
  s : RSteps w p.sa p.ss
  vl : p.vs.length ≤ maxLen
  sl : p.ss.length ≤ maxLen
  si : ∀ s ∈ p.ss, Sc.I64 s.an
theorem RProc.kept {w w' : World} {K : Nat → Prop} {p : Pr} (h : RProc w p) (hk : Kept K w w') (hv : ∀ b off, p.vs ≠ [] → p.va = some ⟨b, off, none⟩ → ¬ K b) (hs : ∀ b off, p.ss ≠ [] → p.sa = some ⟨b, off, none⟩ → ¬ K b) : RProc w' p := ⟨h.v.kept hk hv, h.s.kept hk hs, h.vl, h.sl, h.si⟩
theorem RProc.nil {w w' : World} {p : Pr} (h : RProc w p) (hk : Kept Nil w w') : RProc w' p := h.kept hk (fun _ _ _ _ h => h) (fun _ _ _ _ h => h)
set_option maxHeartbeats 1000000 in
theorem Var_is (p : Pr) (s : ByteArray) (w : World) (hr : RProc w p) : Calls Try.prog 65 #[p.val, .string s] w fun e w' => e = .returned (.int .i64 (varIx p.vs s)) ∧ Kept Nil w w' := by
  have HR := Lib.hid hr
  have hvl := hr.vl
  unfold maxLen at hvl
  clear hr
  obtain ⟨name, weight, va, vs, vc, sa, ss, sc⟩ := p
  unfold Pr.val
  simp only at *
  go_enter Try.func65, Try.ntmps65
  go_wp2_with fail
  refine (IndexFunc_is vs va vc (w.heap.size + 1) s _ ((HR.out.nil (((Kept.refl Nil w).alloc _).alloc _)).v) (by simp) (by omega)).mono ?_
  rintro e w1 ⟨rfl, hk1⟩
  have HK := Lib.hid ((((Kept.refl Nil w).alloc _).alloc _).step hk1)
  clear hk1
  go_wp2_with fail
  go_ret
  exact ⟨rfl, HK.out⟩
set_option maxHeartbeats 2000000 in
theorem RefVar_is (p : Pr) (s : ByteArray) (w : World) (hr : RProc w p) : Calls Try.prog 49 #[p.val, .string s] w fun e w' => e = .returned (.int .i64 (varIx p.vs s)) ∧ Kept Nil w w' := by
  have HR := Lib.hid hr
  have hvl := hr.vl
  unfold maxLen at hvl
  clear hr
  obtain ⟨name, weight, va, vs, vc, sa, ss, sc⟩ := p
  unfold Pr.val
  simp only at *
  go_enter Try.func49, Try.ntmps49
  go_wp2_with fail
  obtain ⟨W0, hW0⟩ : ∃ W0, w.alloc (.cells #[.string name, .int .i64 weight, .slice va vs.length vc, .slice sa ss.length sc] 52) = W0 := ⟨_, rfl⟩
  have hk0 : Kept Nil w W0 := by rw [← hW0]; exact (Kept.refl Nil w).alloc _
  have hp2 : W0.cell? ⟨w.heap.size, 2, none⟩ = some (.slice va vs.length vc) := by rw [← hW0]; simp
  have HK0 := Lib.hid hk0
  have HP2 := Lib.hid hp2
  rw [hW0]
  clear hW0 hk0 hp2
  go_loopw [5] (fun i wr => ∃ k : Nat, k ≤ vs.length ∧ i = .int .i64 k ∧ (∀ (j : Nat) (v : V), j < k → vs[j]? = some v → v.name.toList ≠ s.toList) ∧ Kept Nil W0 wr) (fun i _ => vs.length - (intOf i).toNat)
  case atStart => exact ⟨0, Nat.zero_le _, rfl, fun j v h => by omega, Kept.refl _ _⟩
  case round =>
    obtain ⟨k, hk, rfl, hne, hK⟩ := hrel
    have HNE := Lib.hid hne
    have HK := Lib.hid (HK0.out.step hK)
    have HK2 := Lib.hid hK
    have p2 := hK.cell HP2.out (fun h => h)
    clear hne hK
    by_cases hlt : k < vs.length
    · obtain ⟨v, ev⟩ : ∃ v, vs[k]? = some v := ⟨_, List.getElem?_eq_getElem hlt⟩
      obtain ⟨b, off, e1, c0, c1⟩ := ((HR.out.nil HK.out).v).at ev
      simp only at e1
      subst e1
      have HEV := Lib.hid ev
      clear ev
      by_cases hn : v.name.toList = s.toList
      · have hb : (v.name.toList == s.toList) = true := by simp [hn]
        have HV := Lib.hid (varIx_some HNE.out HEV.out hn)
        clear hn
        go_wp2_with fail
        go_ret
        exact ⟨by rw [HV.out]; rfl, HK.out⟩
      · have hb : (v.name.toList == s.toList) = false := by simp [hn]
        have HN := Lib.hid hn
        clear hn
        go_wp2_with fail
        go_round
        case measure => (simp [intOf] <;> omega)
        refine ⟨k + 1, by omega, by go_num, fun j u hj hu => ?_, HK2.out⟩
        by_cases e : j = k
        · subst e
          rw [HEV.out] at hu; cases hu
          exact HN.out
        · exact HNE.out j u (by omega) hu
    · obtain rfl : k = vs.length := by omega
      have HV := Lib.hid (varIx_none (fun i v hi => HNE.out i v (List.getElem?_eq_some_iff.1 hi).1 hi))
      go_wp2_with fail
      go_ret
      exact ⟨by rw [HV.out]; rfl, HK.out⟩
end Go.Proofs.Ythgbahlkflmgiaa.Mo
