/- The walk of the reference's Fresh. -/
import Derived.Test.YtmamegpkpkkkaaaDoorFreshW
namespace Go.Proofs.YtmamegpkpkkkaaaDoor.Mo
open Go Go.RowKit Go.Proofs.YtmamegpkpkkkaaaDoor.Lb
set_option linter.unusedVariables false
set_option linter.unusedSimpArgs false
set_option maxHeartbeats 2000000 in
theorem RefFresh_is (ns : List ByteArray) (A : Option Addr) (cap : Nat) (stem : ByteArray) (w : World) (hr : RStrs w A ns) (hl : ns.length ≤ 80) (hs : stem.size ≤ 1000) :
    Calls Tryd.prog 9 #[.slice A ns.length cap, .string stem] w fun e w' => e = .returned (.tuple #[.string (freshS ns stem), .int .i64 (freshE ns stem)]) ∧ Kept Nil w w' := by
  have HR := Lib.hid hr
  have hsm : stem.size ≤ maxLen := by unfold maxLen; omega
  clear hr
  cases hst : rightName stem with
  | false =>
    have hn : nameC stem = 40 := by unfold nameC; rw [if_neg (by rw [hst]; simp)]
    have hb : freshB ns stem = false := by unfold freshB; rw [hst]; rfl
    have HS := Lib.hid (show freshS ns stem = ⟨#[]⟩ by unfold freshS; rw [if_neg (by rw [hb]; simp)])
    have HE := Lib.hid (show freshE ns stem = 40 by unfold freshE; rw [if_neg (by rw [hb]; simp)])
    clear hst hb
    go_enter Tryd.func9, Tryd.ntmps9
    go_wp2_with (go_at_call 13; (with_reducible refine (RefCheck_is stem _ hsm).mono ?_); rintro e w2 ⟨rfl, rfl⟩)
    refine bodyPost_ret (v := .tuple #[.string ⟨#[]⟩, .int .i64 40]) (by simp [results, Tryd.results9, go_sem]) rfl ?_
    rw [HS.out, HE.out]
    exact ⟨rfl, Kept.refl _ _⟩
  | true =>
    have hn0 : nameC stem = 0 := by unfold nameC; rw [if_pos hst]
    have HST := Lib.hid hst
    clear hst
    have hw0 : IntKind.i64.wrap ((ns.length : Int) + 2) = (ns.length : Int) + 2 := by rw [IntKind.wrap_i64]; omega
    go_enter Tryd.func9, Tryd.ntmps9
    go_wp2_with (go_at_call 13; (with_reducible refine (RefCheck_is stem _ hsm).mono ?_); rintro e w2 ⟨rfl, rfl⟩)
    go_loopw [6, 7] (fun s i wr => ∃ k : Nat, k ≤ ns.length + 1 ∧ s = .string (cand stem k) ∧ i = .int .i64 ((k : Int) + 2) ∧ Kept Nil w wr ∧ ∀ j, j < k → 0 ≤ findI ns (cand stem j)) (fun _ i _ => ns.length + 4 - (intOf i).toNat)
    case atStart => exact ⟨0, Nat.zero_le _, rfl, rfl, Kept.refl _ _, fun j h => by omega⟩
    case round =>
      obtain ⟨k, hk', rfl, rfl, hK, hall⟩ := hrel
      have hkf := fresh_le hl hall
      have hkn := (freshK_is ns stem hl).1
      have hk : k ≤ ns.length := by omega
      have HK := Lib.hid hK
      have HALL := Lib.hid hall
      have HR2 := Lib.hid (HR.out.kept hK (fun _ _ _ _ h => h))
      clear hK hall hkf hkn
      obtain ⟨c, hc⟩ : ∃ c, cand stem k = c := ⟨_, rfl⟩
      have HC := Lib.hid hc
      rw [hc]
      clear hc
      have hcs : c.size ≤ 1100 := by rw [← HC.out]; exact size_cand hs (by omega)
      have hcm : c.size ≤ maxLen := by unfold maxLen; omega
      have hlt : decide ((k : Int) + 2 ≤ (ns.length : Int) + 2) = true := by simp; omega
      have hlt2 : (k : Int) + 2 ≤ (ns.length : Int) + 2 := by omega
      by_cases hu : findI ns c < 0
      · have hd : decide (findI ns c < 0) = true := by simp [hu]
        have hfk : freshK ns stem = k := freshK_eq hk (by rw [HC.out]; omega) HALL.out
        clear hu
        cases hrn : rightName c with
        | true =>
          have hn : nameC c = 0 := by unfold nameC; rw [if_pos hrn]
          have hb : freshB ns stem = true := by unfold freshB; rw [HST.out, hfk, HC.out, hrn]; rfl
          have HS := Lib.hid (show freshS ns stem = c by unfold freshS; rw [if_pos hb, hfk, HC.out])
          have HE := Lib.hid (show freshE ns stem = 0 by unfold freshE; rw [if_pos hb])
          clear hrn hb hfk
          go_wp2_with (first | (go_at_call 17; (with_reducible refine (FindS_is ns A cap c _ HR2.out (by omega)).mono ?_); rintro e w2 ⟨rfl, rfl⟩) | (go_at_call 13; (with_reducible refine (RefCheck_is c _ hcm).mono ?_); rintro e w2 ⟨rfl, rfl⟩))
          refine bodyPost_ret (v := .tuple #[.string c, .int .i64 0]) (by simp [results, Tryd.results9, go_sem]) rfl ?_
          rw [HS.out, HE.out]
          exact ⟨rfl, HK.out⟩
        | false =>
          have hn : nameC c = 40 := by unfold nameC; rw [if_neg (by rw [hrn]; simp)]
          have hb := fresh_bad (stem := stem) (k := k) hl (by omega) (by rw [HC.out]; exact hrn)
          have HS := Lib.hid (show freshS ns stem = ⟨#[]⟩ by unfold freshS; rw [if_neg (by rw [hb]; simp)])
          have HE := Lib.hid (show freshE ns stem = 40 by unfold freshE; rw [if_neg (by rw [hb]; simp)])
          clear hrn hb hfk
          go_wp2_with (first | (go_at_call 17; (with_reducible refine (FindS_is ns A cap c _ HR2.out (by omega)).mono ?_); rintro e w2 ⟨rfl, rfl⟩) | (go_at_call 13; (with_reducible refine (RefCheck_is c _ hcm).mono ?_); rintro e w2 ⟨rfl, rfl⟩))
          refine bodyPost_ret (v := .tuple #[.string ⟨#[]⟩, .int .i64 40]) (by simp [results, Tryd.results9, go_sem]) rfl ?_
          rw [HS.out, HE.out]
          exact ⟨rfl, HK.out⟩
      · have hd : decide (findI ns c < 0) = false := by simp; omega
        have HU := Lib.hid (show 0 ≤ findI ns c by omega)
        have hw : IntKind.i64.wrap ((k : Int) + 2 + 1) = (k : Int) + 2 + 1 := by rw [IntKind.wrap_i64]; omega
        have hdl := (dig_ok ⟨k + 2, by omega⟩).2.2.1
        simp only at hdl
        clear hu
        go_wp2_with (first | (go_at_call 17; (with_reducible refine (FindS_is ns A cap c _ HR2.out (by omega)).mono ?_); rintro e w2 ⟨rfl, rfl⟩) | (go_at_call 21; (with_reducible refine (Itoa_at k (by omega) _).mono ?_); rintro e w3 ⟨rfl, rfl⟩))
        go_round
        case measure => (simp [intOf] <;> omega)
        refine ⟨k + 1, by omega, by rw [cand_next], congrArg (Value.int .i64) (by omega), HK.out, fun j hj => ?_⟩
        by_cases e : j = k
        · subst e; rw [HC.out]; exact HU.out
        · exact HALL.out j (by omega)
end Go.Proofs.YtmamegpkpkkkaaaDoor.Mo
