/- The walk of the statement IdentChecks. -/
import Derived.Test.YtmamegpkpkkkaaaDoorIdentAlive
import Derived.Test.YtmamegpkpkkkaaaDoorHeld
import Derived.Deep.Cut
import Derived.Deep.CutRange
namespace Go.Proofs.YtmamegpkpkkkaaaDoor.Mo
open Go Go.RowKit Go.Proofs.YtmamegpkpkkkaaaDoor.Lb
set_option linter.unusedVariables false
set_option linter.unusedSimpArgs false
theorem strs_take {w : World} {A : Option Addr} {ns : List ByteArray} (h : RStrs w A ns) (m : Nat) : RStrs w A (ns.take m) := by
  rcases h with h | ⟨b, off, h, hc⟩
  · exact .inl (by rw [h]; simp)
  · exact .inr ⟨b, off, h, fun j s hj => hc j s (by rw [List.getElem?_take] at hj; split at hj; exact hj; cases hj)⟩
theorem strs_nil {w w' : World} {A : Option Addr} {ns : List ByteArray} (hk : Kept Nil w w') (h : RStrs w A ns) : RStrs w' A ns := h.kept hk (fun _ _ _ _ h => h)
theorem Same_at (xs : List ByteArray) (n : Nat) (A B : Option Addr) (capA capB : Nat) (hn : xs.length = n) (w : World) (hr : RStrs w A xs) (hr2 : RStrs w B xs) (hl : xs.length ≤ 4294967296) :
    Calls Tryd.prog 18 #[.slice A n capA, .slice B n capB] w fun e w' => e = .returned (.bool true) ∧ Kept Nil w w' := by
  subst hn
  exact Same_is xs A B capA capB w hr hr2 hl
set_option maxRecDepth 4000 in
set_option maxHeartbeats 16000000 in
theorem IdentChecks_calls (s : ByteArray) (ns : List ByteArray) (A : Option Addr) (cap : Nat) (most : Int) (w : World) (hs : s.size ≤ maxLen) (hr : RStrs w A ns) (hz : ∀ x ∈ ns, x.size ≤ maxLen) (hm : ns.length ≤ maxLen) :
    Calls Tryd.prog 3 #[.string s, .slice A ns.length cap, .int .i64 most] w fun e w' => e = .returned (.bool true) ∧ Kept Nil w w' := by
  have HR := Lib.hid hr
  have HZ := Lib.hid hz
  unfold maxLen at hm
  clear hr hz
  go_enter Tryd.func3, Tryd.ntmps3
  go_wp2_with fail
  refine (alive_is w).mono ?_
  rintro e w1 ⟨rfl, hk1⟩
  by_cases h1 : 100 < s.size
  · have f1 : decide (100 < (s.size : Int)) = true := by simp; omega
    have f1b : decide (100 < s.size) = true := by simp; omega
    clear h1
    go_wp2_with fail
    go_ret
    exact ⟨rfl, hk1⟩
  · have f1 : decide (100 < (s.size : Int)) = false := by simp; omega
    have f1b : decide (100 < s.size) = false := by simp; omega
    by_cases h2 : 40 < ns.length
    · have f2 : decide (40 < (ns.length : Int)) = true := by simp; omega
      have f2b : decide (40 < ns.length) = true := by simp; omega
      clear h1 h2
      go_wp2_with fail
      go_ret
      exact ⟨rfl, hk1⟩
    · have f2 : decide (40 < (ns.length : Int)) = false := by simp; omega
      have f2b : decide (40 < ns.length) = false := by simp; omega
      have hl40 : ns.length ≤ 40 := by omega
      have hs100 : s.size ≤ 100 := by omega
      clear h1 h2
      have HR1 := Lib.hid (strs_nil hk1 HR.out)
      have HK1 := Lib.hid hk1
      clear hk1
      obtain ⟨fs, hfs⟩ : ∃ x, freshS ns s = x := ⟨_, rfl⟩
      obtain ⟨fe, hfe⟩ : ∃ x, freshE ns s = x := ⟨_, rfl⟩
      have HFS := Lib.hid hfs
      have HFE := Lib.hid hfe
      clear hfs hfe
      go_wp2_with fail
      refine (Fresh_is ns A cap s w1 HR1.out (by omega) (by omega)).mono ?_
      rintro e w2 ⟨rfl, hk2⟩
      rw [HFS.out, HFE.out]
      have HK2 := Lib.hid hk2
      clear hk2
      go_wp2_with fail
      refine (RefFresh_is ns A cap s w2 (strs_nil HK2.out HR1.out) (by omega) (by omega)).mono ?_
      rintro e w3 ⟨rfl, hk3⟩
      rw [HFS.out, HFE.out]
      have HK3 := Lib.hid (HK2.out.step hk3)
      clear hk3
      go_wp2_with fail
      refine (DistinctR_is ns A cap w3 (strs_nil HK3.out HR1.out) (by omega)).mono ?_
      rintro e w4 ⟨v4, rfl, hO4, hk4⟩
      obtain ⟨ds, hds⟩ : ∃ ds, dist ns = ds := ⟨_, rfl⟩
      have hdl : ds.length ≤ 40 := by rw [← hds]; exact Nat.le_trans (dist_len _) hl40
      rw [hds] at hO4
      have HDS := Lib.hid hds
      obtain ⟨-, A4, c4, rfl, hA4, -⟩ := strs_of_own hO4
      have HA4 := Lib.hid hA4
      have hc4 : ds.length ≤ c4 := by
        rcases own_form hO4 with ⟨h1, h2, _⟩ | ⟨g, cap, h1, _, _, h4, _⟩
        · omega
        · cases h1; exact h4
      have HK4 := Lib.hid (HK3.out.step hk4)
      obtain ⟨k, hk⟩ : ∃ k : Nat, (if (ds.length : Int) < most then (ds.length : Int) else if most < 0 then 0 else most) = (k : Int) := ⟨(if (ds.length : Int) < most then (ds.length : Int) else if most < 0 then 0 else most).toNat, by split <;> (try split) <;> omega⟩
      have hkd : k ≤ ds.length := by revert hk; split <;> (try split) <;> omega
      have HKK := Lib.hid hk
      obtain ⟨tk, htk⟩ : ∃ tk, ds.take k = tk := ⟨_, rfl⟩
      have htl : tk.length = k := by rw [← htk, List.length_take]; omega
      have HTK := Lib.hid htk
      have HTL := Lib.hid htl
      have hs1 : ∀ w' : World, (Instr.slice 22 (.slice A4 ds.length c4) none (some (.int .i64 (k : Int))) none).run Tryd.prog w' = .ok (.slice A4 k c4) w' := by
        intro w'
        have ht : Tryd.prog.underlying 22 = some (.slice (Tryd.prog.elem 22)) := by kernel_rfl
        rw [run_slice_h w' _ A4 ds.length c4 ht .i64 (k : Int) (by omega) (by omega)]
        cases A4 with
        | none => simp [go_sem, sliced, Result.andThen]
        | some a => simp [go_sem, sliced, Result.andThen, Addr.add]
      have HS1 := Lib.hid hs1
      clear hO4 hk4 hds hk htk htl hA4 hs1
      go_wp2_with fail
      refine (Held_is most 0 (ds.length : Int) (by omega) w4).mono ?_
      rintro e w5 ⟨rfl, rfl⟩
      rw [HKK.out]
      have e1 : (nameC s == nameC s) = true := beq_self_eq_true _
      have e2 : (fs.toList == fs.toList) = true := beq_self_eq_true _
      have e3 : (fe == fe) = true := beq_self_eq_true _
      have e4 : (sortB ns == sortB ns) = true := beq_self_eq_true _
      have e5 : (findI ns s == findI ns s) = true := beq_self_eq_true _
      go_upto_region 9 with fail
      have hs1 := HS1.out
      go_region_held3 (fun w' => True) (go_keep) (first
        | (go_at_call 12
           with_reducible refine (Check_is s _ ?_).mono ?_
           · exact hs
           rintro e w41 ⟨rfl, rfl⟩
           have hz := True.intro
           clear hz)
        | (go_at_call 13
           with_reducible refine (RefCheck_is s _ ?_).mono ?_
           · exact hs
           rintro e w43 ⟨rfl, rfl⟩
           have hz := True.intro
           clear hz)
        | (go_at_call 14
           with_reducible refine (Sorted_is ns A cap _ ?_ ?_).mono ?_
           · exact strs_nil (HK4.out.step (by repeat (first | exact Kept.refl _ _ | assumption | refine Kept.drew ?_ | refine Kept.drewN ?_ _ | refine Kept.alloc ?_ _ | refine Kept.step ?_ (by assumption)))) HR1.out
           · omega
           rintro e w57 ⟨rfl, hk57⟩
           have hz := True.intro
           clear hz)
        | (go_at_call 15
           with_reducible refine (RefSorted_is ns A cap _ ?_ ?_).mono ?_
           · exact strs_nil (HK4.out.step (by repeat (first | exact Kept.refl _ _ | assumption | refine Kept.drew ?_ | refine Kept.drewN ?_ _ | refine Kept.alloc ?_ _ | refine Kept.step ?_ (by assumption)))) HR1.out
           · omega
           rintro e w59 ⟨rfl, hk59⟩
           have hz := True.intro
           clear hz)
        | (go_at_call 16
           with_reducible refine (FindI_is ns A cap s _ ?_ ?_).mono ?_
           · exact strs_nil (HK4.out.step (by repeat (first | exact Kept.refl _ _ | assumption | refine Kept.drew ?_ | refine Kept.drewN ?_ _ | refine Kept.alloc ?_ _ | refine Kept.step ?_ (by assumption)))) HR1.out
           · omega
           rintro e w65 ⟨rfl, rfl⟩
           have hz := True.intro
           clear hz)
        | (go_at_call 17
           with_reducible refine (FindS_is ns A cap s _ ?_ ?_).mono ?_
           · exact strs_nil (HK4.out.step (by repeat (first | exact Kept.refl _ _ | assumption | refine Kept.drew ?_ | refine Kept.drewN ?_ _ | refine Kept.alloc ?_ _ | refine Kept.step ?_ (by assumption)))) HR1.out
           · omega
           rintro e w68 ⟨rfl, rfl⟩
           have hz := True.intro
           clear hz)
        | (go_at_call 19
           with_reducible refine (distinct_is ns A cap 1000 _ ?_ ?_ ?_ ?_).mono ?_
           · exact strs_nil (HK4.out.step (by repeat (first | exact Kept.refl _ _ | assumption | refine Kept.drew ?_ | refine Kept.drewN ?_ _ | refine Kept.alloc ?_ _ | refine Kept.step ?_ (by assumption)))) HR1.out
           · omega
           · exact HZ.out
           · decide
           rintro e w73 ⟨v73, rfl, hO73, hk73⟩
           rw [HDS.out, show ds.take (1000 : Int).toNat = ds from List.take_of_length_le (by simp only [Int.reduceToNat]; omega)] at hO73
           obtain ⟨-, A73, c73, rfl, hA73, -⟩ := strs_of_own hO73
           have HA73 := Lib.hid hA73
           clear hO73 hA73
           have hz := True.intro
           clear hz)
        | (go_at_call 18
           with_reducible refine (Same_is ds A73 A4 c73 c4 _ ?_ ?_ ?_).mono ?_
           · exact strs_nil (by repeat (first | exact Kept.refl _ _ | assumption | refine Kept.drew ?_ | refine Kept.drewN ?_ _ | refine Kept.alloc ?_ _ | refine Kept.step ?_ (by assumption))) HA73.out
           · exact strs_nil (by repeat (first | exact Kept.refl _ _ | assumption | refine Kept.drew ?_ | refine Kept.drewN ?_ _ | refine Kept.alloc ?_ _ | refine Kept.step ?_ (by assumption))) HA4.out
           · omega
           rintro e w75 ⟨rfl, hk75⟩
           have hz := True.intro
           clear hz)
        | (go_at_call 19
           with_reducible refine (distinct_is ns A cap (k : Int) _ ?_ ?_ ?_ ?_).mono ?_
           · exact strs_nil (HK4.out.step (by repeat (first | exact Kept.refl _ _ | assumption | refine Kept.drew ?_ | refine Kept.drewN ?_ _ | refine Kept.alloc ?_ _ | refine Kept.step ?_ (by assumption)))) HR1.out
           · omega
           · exact HZ.out
           · omega
           rintro e w80 ⟨v80, rfl, hO80, hk80⟩
           rw [HDS.out, Int.toNat_natCast, HTK.out, HTL.out] at hO80
           obtain ⟨-, A80, c80, rfl, hA80, -⟩ := strs_of_own hO80
           rw [HTL.out]
           have HA80 := Lib.hid hA80
           clear hO80 hA80
           have hz := True.intro
           clear hz)
        | (go_at_call 18
           with_reducible refine (Same_at tk k A80 A4 c80 c4 HTL.out _ ?_ ?_ ?_).mono ?_
           · exact strs_nil (by repeat (first | exact Kept.refl _ _ | assumption | refine Kept.drew ?_ | refine Kept.drewN ?_ _ | refine Kept.alloc ?_ _ | refine Kept.step ?_ (by assumption))) HA80.out
           · exact strs_nil (by repeat (first | exact Kept.refl _ _ | assumption | refine Kept.drew ?_ | refine Kept.drewN ?_ _ | refine Kept.alloc ?_ _ | refine Kept.step ?_ (by assumption))) (show RStrs w4 A4 tk by have h9 := strs_take HA4.out k; rw [HTK.out] at h9; exact h9)
           · rw [HTL.out]; omega
           rintro e w84 ⟨rfl, hk84⟩
           have hz := True.intro
           clear hz)
        )
      all_goals (try go_wp2_with fail)
      all_goals (go_ret; exact ⟨rfl, HK1.out.step (HK4.out.step (by repeat (first | exact Kept.refl _ _ | assumption | refine Kept.drew ?_ | refine Kept.drewN ?_ _ | refine Kept.alloc ?_ _ | refine Kept.step ?_ (by assumption))))⟩)
end Go.Proofs.YtmamegpkpkkkaaaDoor.Mo
