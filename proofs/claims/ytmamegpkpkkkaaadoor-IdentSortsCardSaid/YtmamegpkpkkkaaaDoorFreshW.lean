/- The walks of ident.Fresh and the reference's. -/
import Derived.Test.YtmamegpkpkkkaaaDoorIdentI
import Derived.Test.YtmamegpkpkkkaaaDoorIdentCk
namespace Go.Proofs.YtmamegpkpkkkaaaDoor.Mo
open Go Go.RowKit Go.Proofs.YtmamegpkpkkkaaaDoor.Lb
set_option linter.unusedVariables false
set_option linter.unusedSimpArgs false
theorem Itoa_at (k : Nat) (hk : k + 2 < 100) (w : World) : Calls Tryd.prog 21 #[.int .i64 ((k : Int) + 2)] w fun e w' => e = .returned (.string ⟨(dig (k + 2)).toArray⟩) ∧ w = w' := Itoa_is (k + 2) hk w
theorem cand_next (stem : ByteArray) (k : Nat) : stem ++ ⟨#[95]⟩ ++ ⟨(dig (k + 2)).toArray⟩ = cand stem (k + 1) := by simp [cand]
theorem fresh_le {ns : List ByteArray} {stem : ByteArray} {k : Nat} (hl : ns.length ≤ 80) (h : ∀ j, j < k → 0 ≤ findI ns (cand stem j)) : k ≤ freshK ns stem := by
  apply Classical.byContradiction
  intro hn
  have h1 := (freshK_is ns stem hl).2.1
  have h2 := h (freshK ns stem) (by omega)
  omega
theorem size_cand {stem : ByteArray} {k : Nat} (hs : stem.size ≤ 1000) (hk : k < 90) : (cand stem k).size ≤ 1100 := by
  cases k with
  | zero => simp only [cand, if_true]; omega
  | succ k =>
    have := (dig_ok ⟨k + 2, by omega⟩).2.2.1
    rw [← size_list, cand_list, List.length_append, List.length_cons, size_list]
    simp only at this
    omega
set_option maxHeartbeats 2000000 in
theorem Fresh_is (ns : List ByteArray) (A : Option Addr) (cap : Nat) (stem : ByteArray) (w : World) (hr : RStrs w A ns) (hl : ns.length ≤ 80) (hs : stem.size ≤ 1000) :
    Calls Tryd.prog 8 #[.slice A ns.length cap, .string stem] w fun e w' => e = .returned (.tuple #[.string (freshS ns stem), .int .i64 (freshE ns stem)]) ∧ Kept Nil w w' := by
  have HR := Lib.hid hr
  clear hr
  go_enter Tryd.func8, Tryd.ntmps8
  go_wp2_with fail
  go_loopw [6, 7] (fun s i wr => ∃ k : Nat, k ≤ ns.length ∧ s = .string (cand stem k) ∧ i = .int .i64 ((k : Int) + 2) ∧ Kept Nil w wr ∧ ∀ j, j < k → 0 ≤ findI ns (cand stem j) ∧ rightName (cand stem j) = true) (fun _ i _ => ns.length + 3 - (intOf i).toNat)
  case atStart => exact ⟨0, Nat.zero_le _, rfl, rfl, Kept.refl _ _, fun j h => by omega⟩
  case round =>
    obtain ⟨k, hk, rfl, rfl, hK, hall⟩ := hrel
    have HK := Lib.hid hK
    have HALL := Lib.hid hall
    have HR2 := Lib.hid (HR.out.kept hK (fun _ _ _ _ h => h))
    clear hK hall
    obtain ⟨c, hc⟩ : ∃ c, cand stem k = c := ⟨_, rfl⟩
    have HC := Lib.hid hc
    rw [hc]
    clear hc
    go_wp2_with fail
    refine (Contains_is ns A cap c wr HR2.out (by omega)).mono ?_
    rintro e w1 ⟨rfl, rfl⟩
    have hcs : c.size ≤ 1100 := by rw [← HC.out]; exact size_cand hs (by omega)
    have hcm : c.size ≤ maxLen := by unfold maxLen; omega
    by_cases hu : 0 ≤ findI ns c
    · have hd : decide (0 ≤ findI ns c) = true := by simp [hu]
      have HU := Lib.hid hu
      have HALLU := Lib.hid (show ∀ j, j ≤ k → 0 ≤ findI ns (cand stem j) from fun j hj => by
        by_cases e : j = k
        · subst e; rw [HC.out]; exact hu
        · exact (HALL.out j (by omega)).1)
      have hk1 : k + 1 ≤ ns.length := used_le hl HALLU.out hk
      clear hu
      cases hrn : rightName c with
      | true =>
        have hn : nameC c = 0 := by unfold nameC; rw [if_pos hrn]
        have HRN := Lib.hid hrn
        have hw : IntKind.i64.wrap ((k : Int) + 2 + 1) = (k : Int) + 2 + 1 := by rw [IntKind.wrap_i64]; omega
        have hdl := (dig_ok ⟨k + 2, by omega⟩).2.2.1
        simp only at hdl
        clear hrn
        go_wp2_with (first | (go_at_call 12; (with_reducible refine (Check_is c _ hcm).mono ?_); rintro e w2 ⟨rfl, rfl⟩) | (go_at_call 21; (with_reducible refine (Itoa_at k (by omega) _).mono ?_); rintro e w3 ⟨rfl, rfl⟩))
        go_round
        case measure => (simp [intOf] <;> omega)
        refine ⟨k + 1, hk1, by rw [cand_next], congrArg (Value.int .i64) (by omega), HK.out, fun j hj => ?_⟩
        by_cases e : j = k
        · subst e; rw [HC.out]; exact ⟨HU.out, HRN.out⟩
        · exact HALL.out j (by omega)
      | false =>
        have hn : nameC c = 40 := by unfold nameC; rw [if_neg (by rw [hrn]; simp)]
        have hb := fresh_bad (stem := stem) (k := k) hl (by have := fresh_le (stem := stem) (k := k + 1) hl (fun j hj => HALLU.out j (by omega)); omega) (by rw [HC.out]; exact hrn)
        have HS := Lib.hid (show freshS ns stem = ⟨#[]⟩ by unfold freshS; rw [if_neg (by rw [hb]; simp)])
        have HE := Lib.hid (show freshE ns stem = 40 by unfold freshE; rw [if_neg (by rw [hb]; simp)])
        clear hrn hb
        go_wp2_with (go_at_call 12; (with_reducible refine (Check_is c _ hcm).mono ?_); rintro e w2 ⟨rfl, rfl⟩)
        refine bodyPost_ret (v := .tuple #[.string ⟨#[]⟩, .int .i64 40]) (by simp [results, Tryd.results8, go_sem]) rfl ?_
        rw [HS.out, HE.out]
        exact ⟨rfl, HK.out⟩
    · have hd : decide (0 ≤ findI ns c) = false := by simp [hu]
      have hfk : freshK ns stem = k := freshK_eq hk (by rw [HC.out]; omega) (fun j hj => (HALL.out j hj).1)
      clear hu
      cases hrn : rightName c with
      | true =>
        have hn : nameC c = 0 := by unfold nameC; rw [if_pos hrn]
        have hst : rightName stem = true := by
          by_cases e : k = 0
          · subst e; rw [← HC.out] at hrn; exact hrn
          · exact (HALL.out 0 (by omega)).2
        have hb : freshB ns stem = true := by unfold freshB; rw [hst, hfk, HC.out, hrn]; rfl
        have HS := Lib.hid (show freshS ns stem = c by unfold freshS; rw [if_pos hb, hfk, HC.out])
        have HE := Lib.hid (show freshE ns stem = 0 by unfold freshE; rw [if_pos hb])
        clear hrn hb hst hfk
        go_wp2_with (go_at_call 12; (with_reducible refine (Check_is c _ hcm).mono ?_); rintro e w2 ⟨rfl, rfl⟩)
        refine bodyPost_ret (v := .tuple #[.string c, .int .i64 0]) (by simp [results, Tryd.results8, go_sem]) rfl ?_
        rw [HS.out, HE.out]
        exact ⟨rfl, HK.out⟩
      | false =>
        have hn : nameC c = 40 := by unfold nameC; rw [if_neg (by rw [hrn]; simp)]
        have hb := fresh_bad (stem := stem) (k := k) hl (by omega) (by rw [HC.out]; exact hrn)
        have HS := Lib.hid (show freshS ns stem = ⟨#[]⟩ by unfold freshS; rw [if_neg (by rw [hb]; simp)])
        have HE := Lib.hid (show freshE ns stem = 40 by unfold freshE; rw [if_neg (by rw [hb]; simp)])
        clear hrn hb hfk
        go_wp2_with (go_at_call 12; (with_reducible refine (Check_is c _ hcm).mono ?_); rintro e w2 ⟨rfl, rfl⟩)
        refine bodyPost_ret (v := .tuple #[.string ⟨#[]⟩, .int .i64 40]) (by simp [results, Tryd.results8, go_sem]) rfl ?_
        rw [HS.out, HE.out]
        exact ⟨rfl, HK.out⟩
end Go.Proofs.YtmamegpkpkkkaaaDoor.Mo
