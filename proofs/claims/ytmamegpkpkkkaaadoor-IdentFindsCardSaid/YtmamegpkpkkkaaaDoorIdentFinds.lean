/- The walk of the statement IdentFinds. -/
import Derived.Test.YtmamegpkpkkkaaaDoorIdentAlive
import Derived.Test.YtmamegpkpkkkaaaDoorIdentP2
import Derived.Deep.Cut
import Derived.Deep.CutRange
namespace Go.Proofs.YtmamegpkpkkkaaaDoor.Mo
open Go Go.RowKit Go.Proofs.YtmamegpkpkkkaaaDoor.Lb
set_option linter.unusedVariables false
set_option linter.unusedSimpArgs false
theorem strs_nil {w w' : World} {A : Option Addr} {ns : List ByteArray} (hk : Kept Nil w w') (h : RStrs w A ns) : RStrs w' A ns := h.kept hk (fun _ _ _ _ h => h)
set_option maxRecDepth 4000 in
set_option maxHeartbeats 16000000 in
theorem IdentFinds_calls (ns : List ByteArray) (A : Option Addr) (cap : Nat) (s : ByteArray) (w : World) (hm : ns.length ≤ maxLen) (hr : RStrs w A ns) (hz : ∀ x ∈ ns, x.size ≤ maxLen) :
    Calls Tryd.prog 6 #[.slice A ns.length cap, .string s] w fun e w' => e = .returned (.bool true) ∧ Kept Nil w w' := by
  have HR := Lib.hid hr
  have HZ := Lib.hid hz
  unfold maxLen at hm
  clear hr hz
  go_enter Tryd.func6, Tryd.ntmps6
  go_wp2_with fail
  refine (alive_is w).mono ?_
  rintro e w1 ⟨rfl, hk1⟩
  by_cases h2 : 40 < ns.length
  · have f2 : decide (40 < (ns.length : Int)) = true := by simp; omega
    have f2b : decide (40 < ns.length) = true := by simp; omega
    clear h2
    go_wp2_with fail
    go_ret
    exact ⟨rfl, hk1⟩
  · have f2 : decide (40 < (ns.length : Int)) = false := by simp; omega
    have f2b : decide (40 < ns.length) = false := by simp; omega
    have hl40 : ns.length ≤ 40 := by omega
    have HR1 := Lib.hid (strs_nil hk1 HR.out)
    have HK1 := Lib.hid hk1
    clear h2 hk1
    obtain ⟨f, hf⟩ : ∃ f, findI ns s = f := ⟨_, rfl⟩
    have HF := Lib.hid hf
    go_wp2_with fail
    refine (FindI_is ns A cap s w1 HR1.out (by omega)).mono ?_
    rintro e w2 ⟨rfl, rfl⟩
    rw [hf]
    clear hf
    go_upto_region 6 with fail
    go_cut [35] from 16 to 35 (fun x wx => x = .bool false ∧ wx = w1)
    case first =>
      rcases findI_cases ns s with ⟨h1, h2⟩ | ⟨q, u, h1, h2, h3, h4⟩
      · rw [HF.out] at h1
        subst h1
        clear h2
        have g1 : decide ((ns.length : Int) ≤ -1) = false := decide_eq_false (by omega)
        go_wp2_with fail
        go_meet
        exact ⟨rfl, rfl⟩
      · rw [HF.out] at h1
        subst h1
        clear h4
        have hql := (List.getElem?_eq_some_iff.1 h2).1
        obtain ⟨b, off, rfl, c0⟩ := HR1.out.at h2
        have g1 : decide ((q : Int) < -1) = false := decide_eq_false (by omega)
        have g2 : decide ((ns.length : Int) ≤ (q : Int)) = false := decide_eq_false (by omega)
        have g3 : decide ((0 : Int) ≤ (q : Int)) = true := by simp
        have g4 : (u.toList == s.toList) = true := by simp [h3]
        have g5 : decide (ns.length ≤ q) = false := decide_eq_false (by omega)
        clear h2 h3
        go_wp2_with fail
        go_meet
        exact ⟨rfl, rfl⟩
    case rest =>
      obtain ⟨rfl, hwc⟩ := hcut
      subst hwc
      go_wp2_with fail
      go_loopw [38] (fun i wr => ∃ k : Nat, k ≤ ns.length ∧ i = .int .i64 k ∧ wr = wc) (fun i _ => ns.length - (intOf i).toNat)
      case atStart => exact ⟨0, Nat.zero_le _, rfl, rfl⟩
      case round =>
        obtain ⟨k, hk, rfl, hwr⟩ := hrel
        subst hwr
        by_cases hlt : k < ns.length
        · obtain ⟨t, et⟩ : ∃ v, ns[k]? = some v := ⟨_, List.getElem?_eq_getElem hlt⟩
          have htm := HZ.out t (List.mem_of_getElem? et)
          obtain ⟨b, off, rfl, c0⟩ := HR1.out.at et
          have ET := Lib.hid et
          clear et
          by_cases he : t.toList = s.toList
          · skip
            have hle := findI_le ET.out he
            rw [HF.out] at hle
            have b1 : (t.toList == s.toList) = true := by simp [he]
            have b2 : decide (f < 0) = false := decide_eq_false (by omega)
            have b3 : decide ((k : Int) < f) = false := decide_eq_false (by omega)
            clear he hle
            cases hrn : rightName t with
            | true =>
              have hn : nameC t = 0 := by unfold nameC; rw [if_pos hrn]
              have hp := right_parts' hrn
              have n1 : decide ((t.size : Int) < 1) = false := decide_eq_false (by omega)
              have n2 : decide (64 < (t.size : Int)) = false := decide_eq_false (by omega)
              have n3 : decide (t.size < 1) = false := decide_eq_false (by omega)
              have n4 : decide (64 < t.size) = false := decide_eq_false (by omega)
              clear hrn hp
              go_wp2_with (go_at_call 12; (with_reducible refine (Check_is t _ htm).mono ?_); rintro e w2 ⟨rfl, rfl⟩)
              go_round
              case measure => (simp [intOf] <;> omega)
              exact ⟨k + 1, by omega, by go_num, trivial⟩
            | false =>
              have hn : nameC t = 40 := by unfold nameC; rw [if_neg (by rw [hrn]; simp)]
              clear hrn
              go_wp2_with (go_at_call 12; (with_reducible refine (Check_is t _ htm).mono ?_); rintro e w2 ⟨rfl, rfl⟩)
              go_round
              case measure => (simp [intOf] <;> omega)
              exact ⟨k + 1, by omega, by go_num, trivial⟩
          · have b1 : (t.toList == s.toList) = false := by simp [he]
            clear he
            cases hrn : rightName t with
            | true =>
              have hn : nameC t = 0 := by unfold nameC; rw [if_pos hrn]
              have hp := right_parts' hrn
              have n1 : decide ((t.size : Int) < 1) = false := decide_eq_false (by omega)
              have n2 : decide (64 < (t.size : Int)) = false := decide_eq_false (by omega)
              have n3 : decide (t.size < 1) = false := decide_eq_false (by omega)
              have n4 : decide (64 < t.size) = false := decide_eq_false (by omega)
              clear hrn hp
              go_wp2_with (go_at_call 12; (with_reducible refine (Check_is t _ htm).mono ?_); rintro e w2 ⟨rfl, rfl⟩)
              go_round
              case measure => (simp [intOf] <;> omega)
              exact ⟨k + 1, by omega, by go_num, trivial⟩
            | false =>
              have hn : nameC t = 40 := by unfold nameC; rw [if_neg (by rw [hrn]; simp)]
              clear hrn
              go_wp2_with (go_at_call 12; (with_reducible refine (Check_is t _ htm).mono ?_); rintro e w2 ⟨rfl, rfl⟩)
              go_round
              case measure => (simp [intOf] <;> omega)
              exact ⟨k + 1, by omega, by go_num, trivial⟩
        · obtain rfl : k = ns.length := by omega
          cases hsb : sortB ns with
          | false =>
            go_wp2_with (go_at_call 14; (with_reducible refine (Sorted_is ns A cap _ HR1.out (by omega)).mono ?_); rintro e w3 ⟨rfl, hk3⟩)
            go_ret
            exact ⟨rfl, HK1.out.step hk3⟩
          | true =>
            have HD := Lib.hid (dist_sorted hsb)
            go_wp2_with (first | (go_at_call 14; (with_reducible refine (Sorted_is ns A cap _ ?_ ?_).mono ?_); exact HR1.out; omega; rintro e w3 ⟨rfl, hk3⟩) | (go_at_call 19; (with_reducible refine (distinct_is ns A cap 1000 _ ?_ ?_ ?_ ?_).mono ?_); exact strs_nil (by repeat (first | exact Kept.refl _ _ | assumption | refine Kept.drew ?_ | refine Kept.drewN ?_ _ | refine Kept.alloc ?_ _ | refine Kept.step ?_ (by assumption))) HR1.out; omega; exact HZ.out; decide; rintro e w4 ⟨v4, rfl, hO4, hk4⟩; rw [HD.out, show ns.take (1000 : Int).toNat = ns from List.take_of_length_le (by simp only [Int.reduceToNat]; omega)] at hO4; obtain ⟨-, A4, c4, rfl, hA4, -⟩ := strs_of_own hO4; have HA4 := Lib.hid hA4; clear hO4 hA4) | (go_at_call 18; (with_reducible refine (Same_is ns A4 A c4 cap _ ?_ ?_ ?_).mono ?_); exact strs_nil (by repeat (first | exact Kept.refl _ _ | assumption | refine Kept.drew ?_ | refine Kept.drewN ?_ _ | refine Kept.alloc ?_ _ | refine Kept.step ?_ (by assumption))) HA4.out; exact strs_nil (by repeat (first | exact Kept.refl _ _ | assumption | refine Kept.drew ?_ | refine Kept.drewN ?_ _ | refine Kept.alloc ?_ _ | refine Kept.step ?_ (by assumption))) HR1.out; omega; rintro e w5 ⟨rfl, hk5⟩))
            go_ret
            exact ⟨rfl, HK1.out.step (by repeat (first | exact Kept.refl _ _ | assumption | refine Kept.drew ?_ | refine Kept.drewN ?_ _ | refine Kept.alloc ?_ _ | refine Kept.step ?_ (by assumption)))⟩
end Go.Proofs.YtmamegpkpkkkaaaDoor.Mo
