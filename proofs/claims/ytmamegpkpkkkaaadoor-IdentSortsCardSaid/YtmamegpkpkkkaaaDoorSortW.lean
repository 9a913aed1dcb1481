/- The walks of ident.Sorted and the reference's. -/
import Derived.Test.YtmamegpkpkkkaaaDoorIdentI
import Derived.BigQuiet
import Derived.Deep.Cut
import Derived.Deep.CutRange
namespace Go.Proofs.YtmamegpkpkkkaaaDoor.Mo
open Go Go.RowKit Go.Proofs.YtmamegpkpkkkaaaDoor.Lb
set_option linter.unusedVariables false
set_option linter.unusedSimpArgs false
set_option maxHeartbeats 1000000 in
theorem Sorted_is (ns : List ByteArray) (A : Option Addr) (cap : Nat) (w : World) (hr : RStrs w A ns) (hm : ns.length ≤ 1000000) :
    Calls Tryd.prog 14 #[.slice A ns.length cap] w fun e w' => e = .returned (.bool (sortB ns)) ∧ Kept Nil w w' := by
  have HR := Lib.hid hr
  clear hr
  go_enter Tryd.func14, Tryd.ntmps14
  go_wp2_with fail
  go_loopw [3] (fun i wr => ∃ k : Nat, 1 ≤ k ∧ k ≤ ns.length + 1 ∧ i = .int .i64 k ∧ Kept Nil w wr ∧ ∀ (j : Nat) (a b : ByteArray), j + 1 < k → ns[j]? = some a → ns[j + 1]? = some b → Op.bytesLess a.toList b.toList = true) (fun i _ => ns.length + 1 - (intOf i).toNat)
  case atStart => exact ⟨1, Nat.le_refl _, by omega, rfl, Kept.refl _ _, fun j a b h => by omega⟩
  case round =>
    obtain ⟨k, hk1, hk, rfl, hK, hall⟩ := hrel
    have HK := Lib.hid hK
    have HALL := Lib.hid hall
    clear hK hall
    by_cases hlt : k < ns.length
    · obtain ⟨m, rfl⟩ : ∃ m, k = m + 1 := ⟨k - 1, by omega⟩
      obtain ⟨t, et⟩ : ∃ v, ns[m + 1]? = some v := ⟨_, List.getElem?_eq_getElem hlt⟩
      have hml : m < ns.length := by omega
      obtain ⟨u, eu⟩ : ∃ v, ns[m]? = some v := ⟨_, List.getElem?_eq_getElem hml⟩
      obtain ⟨b, off, rfl, c0⟩ := (HR.out.kept HK.out (fun _ _ _ _ h => h)).at et
      obtain ⟨b', off', e', c1⟩ := (HR.out.kept HK.out (fun _ _ _ _ h => h)).at eu
      cases e'
      have w1 : IntKind.i64.wrap ((m : Int) + 1 - 1) = (m : Int) := by rw [IntKind.wrap_i64]; omega
      have w2 : IntKind.i64.wrap (m : Int) = (m : Int) := by rw [IntKind.wrap_i64]; omega
      have w3 : IntKind.i64.wrap ((m : Int) + 1 + 1) = (m : Int) + 1 + 1 := by rw [IntKind.wrap_i64]; omega
      have hlt' : (m : Int) + 1 < (ns.length : Int) := by omega
      have hm0 : (m : Int) < (ns.length : Int) := by omega
      have ET := Lib.hid et
      have EU := Lib.hid eu
      clear et eu
      cases hc : Op.bytesLess u.toList t.toList with
      | true =>
        have hb : (Op.bytesLess t.toList u.toList || t.toList == u.toList) = false := by first | (rw [less_total, hc]; rfl) | (rw [hc]; rfl)
        have HC := Lib.hid hc
        clear hc
        go_upto_region 4 with fail
        go_big_quiet (fail)
        go_wp2_with fail
        go_round
        case measure => (simp [intOf] <;> omega)
        refine ⟨m + 1 + 1, by omega, by omega, by go_num, (by first | exact HK.out | exact HK.out.drewN _ | exact (HK.out.drewN _)), fun j x y hj hx hy => ?_⟩
        by_cases e : j = m
        · subst e
          rw [EU.out] at hx; rw [ET.out] at hy; cases hx; cases hy
          exact HC.out
        · exact HALL.out j x y (by omega) hx hy
      | false =>
        have hb : (Op.bytesLess t.toList u.toList || t.toList == u.toList) = true := by first | (rw [less_total, hc]; rfl) | (rw [hc]; rfl)
        have HV := Lib.hid (sortB_false EU.out ET.out hc)
        clear hc
        go_upto_region 4 with fail
        go_big_quiet (fail)
        go_wp2_with fail
        go_ret
        exact ⟨by rw [HV.out]; rfl, (by first | exact HK.out | exact HK.out.drewN _ | exact (HK.out.drewN _))⟩
    · have HV := Lib.hid (sortB_true (ns := ns) (fun i a b h1 h2 => HALL.out i a b (by have := (List.getElem?_eq_some_iff.1 h2).1; omega) h1 h2))
      go_wp2_with fail
      go_ret
      exact ⟨by rw [HV.out]; rfl, HK.out⟩
set_option maxHeartbeats 1000000 in
theorem RefSorted_is (ns : List ByteArray) (A : Option Addr) (cap : Nat) (w : World) (hr : RStrs w A ns) (hm : ns.length ≤ 1000000) :
    Calls Tryd.prog 15 #[.slice A ns.length cap] w fun e w' => e = .returned (.bool (sortB ns)) ∧ Kept Nil w w' := by
  have HR := Lib.hid hr
  clear hr
  go_enter Tryd.func15, Tryd.ntmps15
  go_wp2_with fail
  go_loopw [3] (fun i wr => ∃ k : Nat, 1 ≤ k ∧ k ≤ ns.length + 1 ∧ i = .int .i64 k ∧ Kept Nil w wr ∧ ∀ (j : Nat) (a b : ByteArray), j + 1 < k → ns[j]? = some a → ns[j + 1]? = some b → Op.bytesLess a.toList b.toList = true) (fun i _ => ns.length + 1 - (intOf i).toNat)
  case atStart => exact ⟨1, Nat.le_refl _, by omega, rfl, Kept.refl _ _, fun j a b h => by omega⟩
  case round =>
    obtain ⟨k, hk1, hk, rfl, hK, hall⟩ := hrel
    have HK := Lib.hid hK
    have HALL := Lib.hid hall
    clear hK hall
    by_cases hlt : k < ns.length
    · obtain ⟨m, rfl⟩ : ∃ m, k = m + 1 := ⟨k - 1, by omega⟩
      obtain ⟨t, et⟩ : ∃ v, ns[m + 1]? = some v := ⟨_, List.getElem?_eq_getElem hlt⟩
      have hml : m < ns.length := by omega
      obtain ⟨u, eu⟩ : ∃ v, ns[m]? = some v := ⟨_, List.getElem?_eq_getElem hml⟩
      obtain ⟨b, off, rfl, c0⟩ := (HR.out.kept HK.out (fun _ _ _ _ h => h)).at et
      obtain ⟨b', off', e', c1⟩ := (HR.out.kept HK.out (fun _ _ _ _ h => h)).at eu
      cases e'
      have w1 : IntKind.i64.wrap ((m : Int) + 1 - 1) = (m : Int) := by rw [IntKind.wrap_i64]; omega
      have w2 : IntKind.i64.wrap (m : Int) = (m : Int) := by rw [IntKind.wrap_i64]; omega
      have w3 : IntKind.i64.wrap ((m : Int) + 1 + 1) = (m : Int) + 1 + 1 := by rw [IntKind.wrap_i64]; omega
      have hlt' : (m : Int) + 1 < (ns.length : Int) := by omega
      have hm0 : (m : Int) < (ns.length : Int) := by omega
      have ET := Lib.hid et
      have EU := Lib.hid eu
      clear et eu
      cases hc : Op.bytesLess u.toList t.toList with
      | true =>
        have hb : (!Op.bytesLess u.toList t.toList) = false := by first | (rw [less_total, hc]; rfl) | (rw [hc]; rfl)
        have HC := Lib.hid hc
        clear hc
        go_upto_region 4 with fail
        go_big_quiet (fail)
        go_wp2_with fail
        go_round
        case measure => (simp [intOf] <;> omega)
        refine ⟨m + 1 + 1, by omega, by omega, by go_num, (by first | exact HK.out | exact HK.out.drewN _ | exact (HK.out.drewN _)), fun j x y hj hx hy => ?_⟩
        by_cases e : j = m
        · subst e
          rw [EU.out] at hx; rw [ET.out] at hy; cases hx; cases hy
          exact HC.out
        · exact HALL.out j x y (by omega) hx hy
      | false =>
        have hb : (!Op.bytesLess u.toList t.toList) = true := by first | (rw [less_total, hc]; rfl) | (rw [hc]; rfl)
        have HV := Lib.hid (sortB_false EU.out ET.out hc)
        clear hc
        go_upto_region 4 with fail
        go_big_quiet (fail)
        go_wp2_with fail
        go_ret
        exact ⟨by rw [HV.out]; rfl, (by first | exact HK.out | exact HK.out.drewN _ | exact (HK.out.drewN _))⟩
    · have HV := Lib.hid (sortB_true (ns := ns) (fun i a b h1 h2 => HALL.out i a b (by have := (List.getElem?_eq_some_iff.1 h2).1; omega) h1 h2))
      go_wp2_with fail
      go_ret
      exact ⟨by rw [HV.out]; rfl, HK.out⟩
end Go.Proofs.YtmamegpkpkkkaaaDoor.Mo
