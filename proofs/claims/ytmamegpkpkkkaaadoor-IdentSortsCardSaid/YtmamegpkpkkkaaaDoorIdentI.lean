/- The walks of slices.Index and Contains at strings, ident.Find, strconv.Itoa below 100. -/
import Derived.Test.YtmamegpkpkkkaaaDoorRef05S
import Derived.Test.YtmamegpkpkkkaaaDoorFreshP
namespace Go.Proofs.YtmamegpkpkkkaaaDoor.Mo
open Go Go.RowKit Go.Proofs.YtmamegpkpkkkaaaDoor.Lb
set_option linter.unusedVariables false
set_option linter.unusedSimpArgs false

set_option maxHeartbeats 1000000 in
theorem Index_is (ns : List ByteArray) (A : Option Addr) (cap : Nat) (s : ByteArray) (w : World) (hr : RStrs w A ns) (hm : ns.length ≤ 9223372036854775807) :
    Calls Tryd.prog 24 #[.slice A ns.length cap, .string s] w fun e w' => e = .returned (.int .i64 (findI ns s)) ∧ w = w' := by
  have HR := Lib.hid hr
  clear hr
  go_enter Tryd.func24, Tryd.ntmps24
  go_wp2_with fail
  go_loop [8] (fun i => ∃ k : Nat, k ≤ ns.length ∧ i = .int .i64 k ∧ (∀ (j : Nat) (t : ByteArray), j < k → ns[j]? = some t → t.toList ≠ s.toList)) (fun i => ns.length - (intOf i).toNat)
  case atStart => exact ⟨0, Nat.zero_le _, rfl, fun j v h => by omega⟩
  case round =>
    obtain ⟨k, hk, rfl, hne⟩ := hrel
    have HNE := Lib.hid hne
    clear hne
    by_cases hlt : k < ns.length
    · obtain ⟨t, et⟩ : ∃ v, ns[k]? = some v := ⟨_, List.getElem?_eq_getElem hlt⟩
      obtain ⟨b, off, rfl, c0⟩ := HR.out.at et
      have HEV := Lib.hid et
      clear et
      by_cases hn : t.toList = s.toList
      · have hb : (s.toList == t.toList) = true := by simp [hn]
        have HV := Lib.hid (findI_some HNE.out HEV.out hn)
        clear hn
        go_wp2_with fail
        go_ret
        exact ⟨by rw [HV.out]; rfl, rfl⟩
      · have hb : (s.toList == t.toList) = false := by simp; exact fun e => hn e.symm
        have HN := Lib.hid hn
        clear hn
        go_wp2_with fail
        go_round
        case measure => (simp [intOf] <;> omega)
        refine ⟨k + 1, by omega, by go_num, fun j u hj hu => ?_⟩
        by_cases e : j = k
        · subst e
          rw [HEV.out] at hu; cases hu
          exact HN.out
        · exact HNE.out j u (by omega) hu
    · obtain rfl : k = ns.length := by omega
      have HV := Lib.hid (findI_none HNE.out)
      go_wp2_with fail
      go_ret
      exact ⟨by rw [HV.out]; rfl, rfl⟩
theorem Contains_is (ns : List ByteArray) (A : Option Addr) (cap : Nat) (s : ByteArray) (w : World) (hr : RStrs w A ns) (hm : ns.length ≤ 9223372036854775807) :
    Calls Tryd.prog 20 #[.slice A ns.length cap, .string s] w fun e w' => e = .returned (.bool (decide (0 ≤ findI ns s))) ∧ w = w' := by
  have hc := Index_is ns A cap s w hr hm
  clear hr
  go_enter Tryd.func20, Tryd.ntmps20
  go_wp2_with fail
  refine hc.mono ?_
  rintro e w1 ⟨rfl, rfl⟩
  clear hc
  go_wp2_with fail
  go_ret
  exact ⟨rfl, rfl⟩
theorem FindI_is (ns : List ByteArray) (A : Option Addr) (cap : Nat) (s : ByteArray) (w : World) (hr : RStrs w A ns) (hm : ns.length ≤ 9223372036854775807) :
    Calls Tryd.prog 16 #[.slice A ns.length cap, .string s] w fun e w' => e = .returned (.int .i64 (findI ns s)) ∧ w = w' := by
  have hc := Index_is ns A cap s w hr hm
  clear hr
  go_enter Tryd.func16, Tryd.ntmps16
  go_wp2_with fail
  refine hc.mono ?_
  rintro e w1 ⟨rfl, rfl⟩
  clear hc
  go_wp2_with fail
  go_ret
  exact ⟨rfl, rfl⟩
set_option maxRecDepth 20000 in
theorem small_is (n : Nat) (hn : n < 100) (w : World) : Calls Tryd.prog 29 #[.int .i64 n] w fun e w' => e = .returned (.string ⟨(dig n).toArray⟩) ∧ w = w' := by
  by_cases h10 : n < 10
  · have f1 : decide ((n : Int) < 10) = true := by simp; omega
    have f2 : (n : Int) < 10 := by omega
    go_enter Tryd.func29, Tryd.ntmps29
    go_wp2_with fail
    go_ret
    exact ⟨by
      have h := (show ∀ m : Fin 10, (ByteArray.mk #[48, 49, 50, 51, 52, 53, 54, 55, 56, 57, 97, 98, 99, 100, 101, 102, 103, 104, 105, 106, 107, 108, 109, 110, 111, 112, 113, 114, 115, 116, 117, 118, 119, 120, 121, 122]).extract m.1 (m.1 + 1) = ⟨(dig m.1).toArray⟩ by decide +kernel) ⟨n, h10⟩
      exact congrArg (fun x => Ending.returned (Value.string x)) h, rfl⟩
  · have f1 : decide ((n : Int) < 10) = false := by simp; omega
    have f2 : ¬ (n : Int) < 10 := by omega
    have w1 : IntKind.i64.wrap ((n : Int) * 2) = (n : Int) * 2 := by rw [IntKind.wrap_i64]; omega
    have w2 : IntKind.i64.wrap ((n : Int) * 2 + 2) = (n : Int) * 2 + 2 := by rw [IntKind.wrap_i64]; omega
    go_enter Tryd.func29, Tryd.ntmps29
    go_wp2_with fail
    go_ret
    exact ⟨by
      have h := (show ∀ m : Fin 100, 10 ≤ m.1 → (ByteArray.mk #[48, 48, 48, 49, 48, 50, 48, 51, 48, 52, 48, 53, 48, 54, 48, 55, 48, 56, 48, 57, 49, 48, 49, 49, 49, 50, 49, 51, 49, 52, 49, 53, 49, 54, 49, 55, 49, 56, 49, 57, 50, 48, 50, 49, 50, 50, 50, 51, 50, 52, 50, 53, 50, 54, 50, 55, 50, 56, 50, 57, 51, 48, 51, 49, 51, 50, 51, 51, 51, 52, 51, 53, 51, 54, 51, 55, 51, 56, 51, 57, 52, 48, 52, 49, 52, 50, 52, 51, 52, 52, 52, 53, 52, 54, 52, 55, 52, 56, 52, 57, 53, 48, 53, 49, 53, 50, 53, 51, 53, 52, 53, 53, 53, 54, 53, 55, 53, 56, 53, 57, 54, 48, 54, 49, 54, 50, 54, 51, 54, 52, 54, 53, 54, 54, 54, 55, 54, 56, 54, 57, 55, 48, 55, 49, 55, 50, 55, 51, 55, 52, 55, 53, 55, 54, 55, 55, 55, 56, 55, 57, 56, 48, 56, 49, 56, 50, 56, 51, 56, 52, 56, 53, 56, 54, 56, 55, 56, 56, 56, 57, 57, 48, 57, 49, 57, 50, 57, 51, 57, 52, 57, 53, 57, 54, 57, 55, 57, 56, 57, 57]).extract (m.1 * 2) (m.1 * 2 + 2) = ⟨(dig m.1).toArray⟩ by decide +kernel) ⟨n, hn⟩ (by simp only; omega)
      exact congrArg (fun x => Ending.returned (Value.string x)) h, rfl⟩
theorem FormatInt_is (n : Nat) (hn : n < 100) (w : World) : Calls Tryd.prog 28 #[.int .i64 n, .int .i64 10] w fun e w' => e = .returned (.string ⟨(dig n).toArray⟩) ∧ w = w' := by
  have hc := small_is n hn w
  have f0 : decide ((0 : Int) ≤ (n : Int)) = true := by simp
  have f1 : decide ((n : Int) < 100) = true := by simp; omega
  have f2 : (n : Int) < 100 := by omega
  go_enter Tryd.func28, Tryd.ntmps28
  go_wp2_with fail
  refine hc.mono ?_
  rintro e w1 ⟨rfl, rfl⟩
  clear hc
  go_wp2_with fail
  go_ret
  exact ⟨rfl, rfl⟩
theorem ItoaIn_is (n : Nat) (hn : n < 100) (w : World) : Calls Tryd.prog 26 #[.int .i64 n] w fun e w' => e = .returned (.string ⟨(dig n).toArray⟩) ∧ w = w' := by
  have hc := FormatInt_is n hn w
  go_enter Tryd.func26, Tryd.ntmps26
  go_wp2_with fail
  refine hc.mono ?_
  rintro e w1 ⟨rfl, rfl⟩
  clear hc
  go_wp2_with fail
  go_ret
  exact ⟨rfl, rfl⟩
theorem Itoa_is (n : Nat) (hn : n < 100) (w : World) : Calls Tryd.prog 21 #[.int .i64 n] w fun e w' => e = .returned (.string ⟨(dig n).toArray⟩) ∧ w = w' := by
  have hc := ItoaIn_is n hn w
  go_enter Tryd.func21, Tryd.ntmps21
  go_wp2_with fail
  refine hc.mono ?_
  rintro e w1 ⟨rfl, rfl⟩
  clear hc
  go_wp2_with fail
  go_ret
  exact ⟨rfl, rfl⟩
end Go.Proofs.YtmamegpkpkkkaaaDoor.Mo
