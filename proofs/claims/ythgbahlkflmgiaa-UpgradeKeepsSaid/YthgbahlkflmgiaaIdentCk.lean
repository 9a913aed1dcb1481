/- The walks of ident.Check and of the reference's. -/
import Derived.Test.YthgbahlkflmgiaaBasics
import Derived.Test.YthgbahlkflmgiaaNameP
namespace Go.Proofs.Ythgbahlkflmgiaa.Mo
open Go Go.RowKit Go.Proofs.Ythgbahlkflmgiaa.Lb
set_option linter.unusedVariables false
set_option linter.unusedSimpArgs false

theorem letter_is (c : UInt8) (w : World) : Calls Try.prog 63 #[.int .u8 (c.toNat : Int)] w fun e w' => e = .returned (.bool (letterB c)) ∧ w = w' := by
  unfold letterB
  generalize (c.toNat : Int) = n
  by_cases h1 : 97 ≤ n
  · have h1b : decide (97 ≤ n) = true := decide_eq_true h1
    by_cases h2 : n ≤ 122
    all_goals
      go_enter Try.func63, Try.ntmps63
      go_wp2
      go_ret
      exact ⟨by simp [h1, h2], rfl⟩
  · have h1b : decide (97 ≤ n) = false := decide_eq_false h1
    go_enter Try.func63, Try.ntmps63
    go_wp2
    go_ret
    exact ⟨by simp [h1], rfl⟩
theorem other_is (c : UInt8) (w : World) : Calls Try.prog 64 #[.int .u8 (c.toNat : Int)] w fun e w' => e = .returned (.bool (otherB c)) ∧ w = w' := by
  unfold otherB
  generalize (c.toNat : Int) = n
  by_cases h1 : 48 ≤ n
  · have h1b : decide (48 ≤ n) = true := decide_eq_true h1
    by_cases h2 : n ≤ 57
    · have h2b : decide (n ≤ 57) = true := decide_eq_true h2
      go_enter Try.func64, Try.ntmps64
      go_wp2
      go_ret
      exact ⟨by simp [h1, h2], rfl⟩
    · have h2b : decide (n ≤ 57) = false := decide_eq_false h2
      go_enter Try.func64, Try.ntmps64
      go_wp2
      go_ret
      exact ⟨by simp [h1, h2], rfl⟩
  · have h1b : decide (48 ≤ n) = false := decide_eq_false h1
    go_enter Try.func64, Try.ntmps64
    go_wp2
    go_ret
    exact ⟨by simp [h1], rfl⟩
theorem size_zero {s : ByteArray} (h : s.size = 0) : s.toList = [] := by
  rw [ByteArray.toList_eq]
  exact List.eq_nil_of_length_eq_zero (by rw [size_list]; exact h)
theorem size_pos' {s : ByteArray} (h : 0 < s.size) : s.toList ≠ [] := by
  rw [ByteArray.toList_eq]
  intro e
  have := size_list s
  rw [e] at this
  simp at this
  omega
set_option maxHeartbeats 2000000 in
theorem Check_is (s : ByteArray) (w : World) (hs : s.size ≤ maxLen) : Calls Try.prog 53 #[.string s] w fun e w' => e = .returned (.int .i64 (nameC s)) ∧ w = w' := by
  unfold maxLen at hs
  by_cases h0 : s.size = 0
  · have hb : s.toList = [] := size_zero h0
    have HN := Lib.hid (nameC_no (right_no_size (s := s) (by omega)))
    clear h0
    go_enter Try.func53, Try.ntmps53
    go_wp2_with fail
    go_ret
    rw [HN.out]
    exact ⟨rfl, rfl⟩
  · have hp : 0 < s.size := by omega
    have hb := size_pos' hp
    have hb2 : s.toList.isEmpty = false := by simpa using hb
    have hb3 : (!s.toList.isEmpty) = true := by simp [hb2]
    clear h0
    by_cases h64 : 64 < s.size
    · have HN := Lib.hid (nameC_no (right_no_size (s := s) (by omega)))
      go_enter Try.func53, Try.ntmps53
      go_wp2_with fail
      go_ret
      rw [HN.out]
      exact ⟨rfl, rfl⟩
    · cases hl : letterB s[0] with
      | false =>
        have HN := Lib.hid (nameC_no (right_no_first hp hl))
        have HL := Lib.hid hl
        clear hl
        go_enter Try.func53, Try.ntmps53
        go_wp2_with fail
        refine (letter_is s[0] _).mono ?_
        rintro e w1 ⟨rfl, rfl⟩
        rw [HL.out]
        go_wp2_with fail
        go_ret
        rw [HN.out]
        exact ⟨rfl, rfl⟩
      | true =>
        have HL := Lib.hid hl
        clear hl
        go_enter Try.func53, Try.ntmps53
        go_wp2_with fail
        refine (letter_is s[0] _).mono ?_
        rintro e w1 ⟨rfl, rfl⟩
        rw [HL.out]
        go_wp2_with fail
        go_loop [19] (fun i => ∃ k : Nat, k ≤ s.size ∧ i = .int .i64 k ∧ ∀ (j : Nat) (h : j < s.size), j < k → (letterB s[j] || otherB s[j]) = true) (fun i => s.size - (intOf i).toNat)
        case atStart => exact ⟨0, Nat.zero_le _, rfl, fun j h hj => by omega⟩
        case round =>
          obtain ⟨k, hk, rfl, hall⟩ := hrel
          have HALL := Lib.hid hall
          clear hall
          by_cases hlt : k < s.size
          · cases h1 : letterB s[k] with
            | true =>
              have H1 := Lib.hid h1
              clear h1
              go_wp2_with fail
              refine (letter_is s[k] _).mono ?_
              rintro e w2 ⟨rfl, rfl⟩
              rw [H1.out]
              go_wp2_with fail
              go_round
              case measure => (simp [intOf] <;> omega)
              refine ⟨k + 1, by omega, by go_num, fun j h hj => ?_⟩
              by_cases e : j = k
              · subst e; rw [H1.out]; rfl
              · exact HALL.out j h (by omega)
            | false =>
              cases h2 : otherB s[k] with
              | true =>
                have H1 := Lib.hid h1
                have H2 := Lib.hid h2
                clear h1 h2
                go_wp2_with fail
                refine (letter_is s[k] _).mono ?_
                rintro e w2 ⟨rfl, rfl⟩
                rw [H1.out]
                go_wp2_with fail
                refine (other_is s[k] _).mono ?_
                rintro e w2 ⟨rfl, rfl⟩
                rw [H2.out]
                go_wp2_with fail
                go_round
                case measure => (simp [intOf] <;> omega)
                refine ⟨k + 1, by omega, by go_num, fun j h hj => ?_⟩
                by_cases e : j = k
                · subst e; rw [H1.out, H2.out]; rfl
                · exact HALL.out j h (by omega)
              | false =>
                have HN := Lib.hid (nameC_no (right_no_at hlt (by rw [h1, h2]; rfl)))
                have H1 := Lib.hid h1
                have H2 := Lib.hid h2
                clear h1 h2
                go_wp2_with fail
                refine (letter_is s[k] _).mono ?_
                rintro e w2 ⟨rfl, rfl⟩
                rw [H1.out]
                go_wp2_with fail
                refine (other_is s[k] _).mono ?_
                rintro e w2 ⟨rfl, rfl⟩
                rw [H2.out]
                go_wp2_with fail
                go_ret
                rw [HN.out]
                exact ⟨rfl, rfl⟩
          · obtain rfl : k = s.size := by omega
            have HN := Lib.hid (nameC_yes (right_yes (s := s) (by omega) (by omega) HL.out (fun j h => HALL.out j h h)))
            go_wp2_with fail
            go_ret
            rw [HN.out]
            exact ⟨rfl, rfl⟩
set_option maxHeartbeats 2000000 in
theorem RefCheck_is (s : ByteArray) (w : World) (hs : s.size ≤ maxLen) : Calls Try.prog 47 #[.string s] w fun e w' => e = .returned (.int .i64 (nameC s)) ∧ w = w' := by
  unfold maxLen at hs
  by_cases h0 : s.size < 1
  · have HN := Lib.hid (nameC_no (right_no_size (s := s) (by omega)))
    have h0b : decide ((s.size : Int) < 1) = true := by simp; omega
    go_enter Try.func47, Try.ntmps47
    go_wp2_with fail
    go_ret
    rw [HN.out]
    exact ⟨rfl, rfl⟩
  · have h0b : decide ((s.size : Int) < 1) = false := by simp; omega
    have hp : 0 < s.size := by omega
    by_cases h64 : 64 < s.size
    · have HN := Lib.hid (nameC_no (right_no_size (s := s) (by omega)))
      have h64b : decide (64 < (s.size : Int)) = true := by simp; omega
      go_enter Try.func47, Try.ntmps47
      go_wp2_with fail
      go_ret
      rw [HN.out]
      exact ⟨rfl, rfl⟩
    · have h64b : decide (64 < (s.size : Int)) = false := by simp; omega
      go_enter Try.func47, Try.ntmps47
      go_wp2_with fail
      go_loop [3] (fun i => ∃ k : Nat, k ≤ s.size ∧ i = .int .i64 k ∧ (∀ (j : Nat) (h : j < s.size), j < k → (letterB s[j] || otherB s[j]) = true) ∧ (0 < k → letterB s[0] = true)) (fun i => s.size - (intOf i).toNat)
      case atStart => exact ⟨0, Nat.zero_le _, rfl, fun j h hj => by omega, fun h => by omega⟩
      case round =>
        obtain ⟨k, hk, rfl, hall, hfirst⟩ := hrel
        have HALL := Lib.hid hall
        have HF := Lib.hid hfirst
        clear hall hfirst
        by_cases hlt : k < s.size
        · by_cases h1 : 97 ≤ (s[k].toNat : Int)
          · by_cases h2 : (s[k].toNat : Int) ≤ 122
            · skip
              have f0 : decide (97 ≤ (s[k].toNat : Int)) = true := by first | (simp; done) | (simp; omega)
              have f1 : decide ((s[k].toNat : Int) ≤ 122) = true := by first | (simp; done) | (simp; omega)
              have f2 : decide (48 ≤ (s[k].toNat : Int)) = true := by first | (simp; done) | (simp; omega)
              have f3 : decide ((s[k].toNat : Int) ≤ 57) = false := by first | (simp; done) | (simp; omega)
              have f4 : ((s[k].toNat : Int) == 95) = false := by first | (simp; done) | (simp; omega)
              have HB := Lib.hid (show (letterB s[k] || otherB s[k]) = true by unfold letterB otherB; simp; omega)
              have HL := Lib.hid (show 0 < k + 1 → letterB s[0] = true from fun _ => (if hz : k = 0 then (by subst hz; unfold letterB; simp; omega) else HF.out (by omega)))
              go_wp2_with fail
              go_round
              case measure => (simp [intOf] <;> omega)
              refine ⟨k + 1, by omega, by go_num, fun j h hj => ?_, HL.out⟩
              by_cases e : j = k
              · subst e; exact HB.out
              · exact HALL.out j h (by omega)
            · skip
              by_cases hk0 : k = 0
              · have f0 : decide (97 ≤ (s[k].toNat : Int)) = true := by first | (simp; done) | (simp; omega)
                have f1 : decide ((s[k].toNat : Int) ≤ 122) = false := by first | (simp; done) | (simp; omega)
                have f2 : decide (48 ≤ (s[k].toNat : Int)) = true := by first | (simp; done) | (simp; omega)
                have f3 : decide ((s[k].toNat : Int) ≤ 57) = false := by first | (simp; done) | (simp; omega)
                have f4 : ((s[k].toNat : Int) == 95) = false := by first | (simp; done) | (simp; omega)
                have HN := Lib.hid (nameC_no (right_no_first (s := s) hp (by subst hk0; unfold letterB; simp; omega)))
                have hk0b : ((k : Int) == 0) = true := by simp; omega
                clear hk0
                go_wp2_with fail
                go_ret
                rw [HN.out]
                exact ⟨rfl, rfl⟩
              · have f0 : decide (97 ≤ (s[k].toNat : Int)) = true := by first | (simp; done) | (simp; omega)
                have f1 : decide ((s[k].toNat : Int) ≤ 122) = false := by first | (simp; done) | (simp; omega)
                have f2 : decide (48 ≤ (s[k].toNat : Int)) = true := by first | (simp; done) | (simp; omega)
                have f3 : decide ((s[k].toNat : Int) ≤ 57) = false := by first | (simp; done) | (simp; omega)
                have f4 : ((s[k].toNat : Int) == 95) = false := by first | (simp; done) | (simp; omega)
                have hk0b : ((k : Int) == 0) = false := by simp; omega
                have HN := Lib.hid (nameC_no (right_no_at (s := s) hlt (by unfold letterB otherB; simp; omega)))
                go_wp2_with fail
                go_ret
                rw [HN.out]
                exact ⟨rfl, rfl⟩
          · by_cases h3 : 48 ≤ (s[k].toNat : Int)
            · by_cases h4 : (s[k].toNat : Int) ≤ 57
              · skip
                by_cases hk0 : k = 0
                · have f0 : decide (97 ≤ (s[k].toNat : Int)) = false := by first | (simp; done) | (simp; omega)
                  have f1 : decide (48 ≤ (s[k].toNat : Int)) = true := by first | (simp; done) | (simp; omega)
                  have f2 : decide ((s[k].toNat : Int) ≤ 57) = true := by first | (simp; done) | (simp; omega)
                  have HN := Lib.hid (nameC_no (right_no_first (s := s) hp (by subst hk0; unfold letterB; simp; omega)))
                  have hk0b : ((k : Int) == 0) = true := by simp; omega
                  clear hk0
                  go_wp2_with fail
                  go_ret
                  rw [HN.out]
                  exact ⟨rfl, rfl⟩
                · have f0 : decide (97 ≤ (s[k].toNat : Int)) = false := by first | (simp; done) | (simp; omega)
                  have f1 : decide (48 ≤ (s[k].toNat : Int)) = true := by first | (simp; done) | (simp; omega)
                  have f2 : decide ((s[k].toNat : Int) ≤ 57) = true := by first | (simp; done) | (simp; omega)
                  have hk0 : ((k : Int) == 0) = false := by simp; omega
                  have HB := Lib.hid (show (letterB s[k] || otherB s[k]) = true by unfold letterB otherB; simp; omega)
                  have HL := Lib.hid (show 0 < k + 1 → letterB s[0] = true from fun _ => HF.out (by omega))
                  go_wp2_with fail
                  go_round
                  case measure => (simp [intOf] <;> omega)
                  refine ⟨k + 1, by omega, by go_num, fun j h hj => ?_, HL.out⟩
                  by_cases e : j = k
                  · subst e; exact HB.out
                  · exact HALL.out j h (by omega)
              · by_cases h5 : (s[k].toNat : Int) = 95
                · skip
                  by_cases hk0 : k = 0
                  · have f0 : decide (97 ≤ (s[k].toNat : Int)) = false := by first | (simp; done) | (simp; omega)
                    have f1 : decide (48 ≤ (s[k].toNat : Int)) = true := by first | (simp; done) | (simp; omega)
                    have f2 : decide ((s[k].toNat : Int) ≤ 57) = false := by first | (simp; done) | (simp; omega)
                    have f3 : ((s[k].toNat : Int) == 95) = true := by first | (simp; done) | (simp; omega)
                    have HN := Lib.hid (nameC_no (right_no_first (s := s) hp (by subst hk0; unfold letterB; simp; omega)))
                    have hk0b : ((k : Int) == 0) = true := by simp; omega
                    clear hk0
                    go_wp2_with fail
                    go_ret
                    rw [HN.out]
                    exact ⟨rfl, rfl⟩
                  · have f0 : decide (97 ≤ (s[k].toNat : Int)) = false := by first | (simp; done) | (simp; omega)
                    have f1 : decide (48 ≤ (s[k].toNat : Int)) = true := by first | (simp; done) | (simp; omega)
                    have f2 : decide ((s[k].toNat : Int) ≤ 57) = false := by first | (simp; done) | (simp; omega)
                    have f3 : ((s[k].toNat : Int) == 95) = true := by first | (simp; done) | (simp; omega)
                    have hk0 : ((k : Int) == 0) = false := by simp; omega
                    have HB := Lib.hid (show (letterB s[k] || otherB s[k]) = true by unfold letterB otherB; simp; omega)
                    have HL := Lib.hid (show 0 < k + 1 → letterB s[0] = true from fun _ => HF.out (by omega))
                    go_wp2_with fail
                    go_round
                    case measure => (simp [intOf] <;> omega)
                    refine ⟨k + 1, by omega, by go_num, fun j h hj => ?_, HL.out⟩
                    by_cases e : j = k
                    · subst e; exact HB.out
                    · exact HALL.out j h (by omega)
                · skip
                  by_cases hk0 : k = 0
                  · have f0 : decide (97 ≤ (s[k].toNat : Int)) = false := by first | (simp; done) | (simp; omega)
                    have f1 : decide (48 ≤ (s[k].toNat : Int)) = true := by first | (simp; done) | (simp; omega)
                    have f2 : decide ((s[k].toNat : Int) ≤ 57) = false := by first | (simp; done) | (simp; omega)
                    have f3 : ((s[k].toNat : Int) == 95) = false := by first | (simp; done) | (simp; omega)
                    have HN := Lib.hid (nameC_no (right_no_first (s := s) hp (by subst hk0; unfold letterB; simp; omega)))
                    have hk0b : ((k : Int) == 0) = true := by simp; omega
                    clear hk0
                    go_wp2_with fail
                    go_ret
                    rw [HN.out]
                    exact ⟨rfl, rfl⟩
                  · have f0 : decide (97 ≤ (s[k].toNat : Int)) = false := by first | (simp; done) | (simp; omega)
                    have f1 : decide (48 ≤ (s[k].toNat : Int)) = true := by first | (simp; done) | (simp; omega)
                    have f2 : decide ((s[k].toNat : Int) ≤ 57) = false := by first | (simp; done) | (simp; omega)
                    have f3 : ((s[k].toNat : Int) == 95) = false := by first | (simp; done) | (simp; omega)
                    have hk0b : ((k : Int) == 0) = false := by simp; omega
                    have HN := Lib.hid (nameC_no (right_no_at (s := s) hlt (by unfold letterB otherB; simp; omega)))
                    go_wp2_with fail
                    go_ret
                    rw [HN.out]
                    exact ⟨rfl, rfl⟩
            · skip
              by_cases hk0 : k = 0
              · have f0 : decide (97 ≤ (s[k].toNat : Int)) = false := by first | (simp; done) | (simp; omega)
                have f1 : decide (48 ≤ (s[k].toNat : Int)) = false := by first | (simp; done) | (simp; omega)
                have f2 : ((s[k].toNat : Int) == 95) = false := by first | (simp; done) | (simp; omega)
                have HN := Lib.hid (nameC_no (right_no_first (s := s) hp (by subst hk0; unfold letterB; simp; omega)))
                have hk0b : ((k : Int) == 0) = true := by simp; omega
                clear hk0
                go_wp2_with fail
                go_ret
                rw [HN.out]
                exact ⟨rfl, rfl⟩
              · have f0 : decide (97 ≤ (s[k].toNat : Int)) = false := by first | (simp; done) | (simp; omega)
                have f1 : decide (48 ≤ (s[k].toNat : Int)) = false := by first | (simp; done) | (simp; omega)
                have f2 : ((s[k].toNat : Int) == 95) = false := by first | (simp; done) | (simp; omega)
                have hk0b : ((k : Int) == 0) = false := by simp; omega
                have HN := Lib.hid (nameC_no (right_no_at (s := s) hlt (by unfold letterB otherB; simp; omega)))
                go_wp2_with fail
                go_ret
                rw [HN.out]
                exact ⟨rfl, rfl⟩
        · obtain rfl : k = s.size := by omega
          have HN := Lib.hid (nameC_yes (right_yes (s := s) (by omega) (by omega) (HF.out hp) (fun j h => HALL.out j h h)))
          go_wp2_with fail
          go_ret
          rw [HN.out]
          exact ⟨rfl, rfl⟩
end Go.Proofs.Ythgbahlkflmgiaa.Mo
