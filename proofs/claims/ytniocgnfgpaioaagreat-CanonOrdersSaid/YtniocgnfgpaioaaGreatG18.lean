/- The walks of ident.Check and of the reference's; The walks of model.Proc, model.Link and of the reference's; The walks of the small functions of the check: numbers, weights, arguments. -/
import Derived.Test.YtniocgnfgpaioaaGreatG14
import Derived.Test.YtniocgnfgpaioaaGreatG2
import Derived.Test.YtniocgnfgpaioaaGreatG3
set_option linter.unusedVariables false
set_option linter.unusedSimpArgs false
section
namespace Go.Proofs.YtniocgnfgpaioaaGreat.Mo
open Go Go.RowKit Go.Proofs.YtniocgnfgpaioaaGreat.Lb

theorem letter_is (c : UInt8) (w : World) : Calls Tryz.prog 117 #[.int .u8 (c.toNat : Int)] w fun e w' => e = .returned (.bool (letterB c)) ∧ w = w' := by
 unfold letterB
 generalize (c.toNat : Int) = n
 by_cases h1 : 97 ≤ n
 ·have h1b : decide (97 ≤ n) = true := decide_eq_true h1
  by_cases h2 : n ≤ 122
  all_goals
   go_enter Tryz.func117, Tryz.ntmps117
   go_wp2
   go_ret
   exact ⟨by simp [h1, h2], rfl⟩
 ·have h1b : decide (97 ≤ n) = false := decide_eq_false h1
  go_enter Tryz.func117, Tryz.ntmps117
  go_wp2
  go_ret
  exact ⟨by simp [h1], rfl⟩
theorem other_is (c : UInt8) (w : World) : Calls Tryz.prog 118 #[.int .u8 (c.toNat : Int)] w fun e w' => e = .returned (.bool (otherB c)) ∧ w = w' := by
 unfold otherB
 generalize (c.toNat : Int) = n
 by_cases h1 : 48 ≤ n
 ·have h1b : decide (48 ≤ n) = true := decide_eq_true h1
  by_cases h2 : n ≤ 57
  ·have h2b : decide (n ≤ 57) = true := decide_eq_true h2
   go_enter Tryz.func118, Tryz.ntmps118
   go_wp2
   go_ret
   exact ⟨by simp [h1, h2], rfl⟩
  ·have h2b : decide (n ≤ 57) = false := decide_eq_false h2
   go_enter Tryz.func118, Tryz.ntmps118
   go_wp2
   go_ret
   exact ⟨by simp [h1, h2], rfl⟩
 ·have h1b : decide (48 ≤ n) = false := decide_eq_false h1
  go_enter Tryz.func118, Tryz.ntmps118
  go_wp2
  go_ret
  exact ⟨by simp [h1], rfl⟩
theorem size_zero {s : ByteArray} (h : s.size = 0) : s.toList = [] := by
 rw [ByteArray.toList_eq]
 exact List.eq_nil_of_length_eq_zero (by rw [size_list]; exact h)
theorem size_pos' {s : ByteArray} (h : 0 < s.size) : s.toList ≠ [] := by
 rw [ByteArray.toList_eq]
 intro e
 have := size_list s
 rw [e] at this
 simp at this
 omega
set_option maxHeartbeats 2000000 in
theorem Check_is (s : ByteArray) (w : World) (hs : s.size ≤ maxLen) : Calls Tryz.prog 84 #[.string s] w fun e w' => e = .returned (.int .i64 (nameC s)) ∧ w = w' := by
 unfold maxLen at hs
 by_cases h0 : s.size = 0
 ·have hb : s.toList = [] := size_zero h0
  have HN := Lib.hid (nameC_no (right_no_size (s := s) (by omega)))
  clear h0
  go_enter Tryz.func84, Tryz.ntmps84
  go_wp2_with fail
  go_ret
  rw [HN.out]
  exact ⟨rfl, rfl⟩
 ·have hp : 0 < s.size := by omega
  have hb := size_pos' hp
  have hb2 : s.toList.isEmpty = false := by simpa using hb
  have hb3 : (!s.toList.isEmpty) = true := by simp [hb2]
  clear h0
  by_cases h64 : 64 < s.size
  ·have HN := Lib.hid (nameC_no (right_no_size (s := s) (by omega)))
   go_enter Tryz.func84, Tryz.ntmps84
   go_wp2_with fail
   go_ret
   rw [HN.out]
   exact ⟨rfl, rfl⟩
  ·cases hl : letterB s[0] with
   | false =>
    have HN := Lib.hid (nameC_no (right_no_first hp hl))
    have HL := Lib.hid hl
    clear hl
    go_enter Tryz.func84, Tryz.ntmps84
    go_wp2_with fail
    refine (letter_is s[0] _).mono ?_
    rintro e w1 ⟨rfl, rfl⟩
    rw [HL.out]
    go_wp2_with fail
    go_ret
    rw [HN.out]
    exact ⟨rfl, rfl⟩
   | true =>
    have HL := Lib.hid hl
    clear hl
    go_enter Tryz.func84, Tryz.ntmps84
    go_wp2_with fail
    refine (letter_is s[0] _).mono ?_
    rintro e w1 ⟨rfl, rfl⟩
    rw [HL.out]
    go_wp2_with fail
    go_loop [19] (fun i => ∃ k : Nat, k ≤ s.size ∧ i = .int .i64 k ∧ ∀ (j : Nat) (h : j < s.size), j < k → (letterB s[j] || otherB s[j]) = true) (fun i => s.size - (intOf i).toNat)
    case atStart => exact ⟨0, Nat.zero_le _, rfl, fun j h hj => by omega⟩
    case round =>
     obtain ⟨k, hk, rfl, hall⟩ := hrel
     have HALL := Lib.hid hall
     clear hall
     by_cases hlt : k < s.size
     ·cases h1 : letterB s[k] with
      | true =>
       have H1 := Lib.hid h1
       clear h1
       go_wp2_with fail
       refine (letter_is s[k] _).mono ?_
       rintro e w2 ⟨rfl, rfl⟩
       rw [H1.out]
       go_wp2_with fail
       go_round
       case measure => (simp [intOf] <;> omega)
       refine ⟨k + 1, by omega, by go_num, fun j h hj => ?_⟩
       by_cases e : j = k
       ·subst e; rw [H1.out]; rfl
       ·exact HALL.out j h (by omega)
      | false =>
       cases h2 : otherB s[k] with
       | true =>
        have H1 := Lib.hid h1
        have H2 := Lib.hid h2
        clear h1 h2
        go_wp2_with fail
        refine (letter_is s[k] _).mono ?_
        rintro e w2 ⟨rfl, rfl⟩
        rw [H1.out]
        go_wp2_with fail
        refine (other_is s[k] _).mono ?_
        rintro e w2 ⟨rfl, rfl⟩
        rw [H2.out]
        go_wp2_with fail
        go_round
        case measure => (simp [intOf] <;> omega)
        refine ⟨k + 1, by omega, by go_num, fun j h hj => ?_⟩
        by_cases e : j = k
        ·subst e; rw [H1.out, H2.out]; rfl
        ·exact HALL.out j h (by omega)
       | false =>
        have HN := Lib.hid (nameC_no (right_no_at hlt (by rw [h1, h2]; rfl)))
        have H1 := Lib.hid h1
        have H2 := Lib.hid h2
        clear h1 h2
        go_wp2_with fail
        refine (letter_is s[k] _).mono ?_
        rintro e w2 ⟨rfl, rfl⟩
        rw [H1.out]
        go_wp2_with fail
        refine (other_is s[k] _).mono ?_
        rintro e w2 ⟨rfl, rfl⟩
        rw [H2.out]
        go_wp2_with fail
        go_ret
        rw [HN.out]
        exact ⟨rfl, rfl⟩
     ·obtain rfl : k = s.size := by omega
      have HN := Lib.hid (nameC_yes (right_yes (s := s) (by omega) (by omega) HL.out (fun j h => HALL.out j h h)))
      go_wp2_with fail
      go_ret
      rw [HN.out]
      exact ⟨rfl, rfl⟩
set_option maxHeartbeats 2000000 in
theorem RefCheck_is (s : ByteArray) (w : World) (hs : s.size ≤ maxLen) : Calls Tryz.prog 94 #[.string s] w fun e w' => e = .returned (.int .i64 (nameC s)) ∧ w = w' := by
 unfold maxLen at hs
 by_cases h0 : s.size < 1
 ·have HN := Lib.hid (nameC_no (right_no_size (s := s) (by omega)))
  have h0b : decide ((s.size : Int) < 1) = true := by simp; omega
  go_enter Tryz.func94, Tryz.ntmps94
  go_wp2_with fail
  go_ret
  rw [HN.out]
  exact ⟨rfl, rfl⟩
 ·have h0b : decide ((s.size : Int) < 1) = false := by simp; omega
  have hp : 0 < s.size := by omega
  by_cases h64 : 64 < s.size
  ·have HN := Lib.hid (nameC_no (right_no_size (s := s) (by omega)))
   have h64b : decide (64 < (s.size : Int)) = true := by simp; omega
   go_enter Tryz.func94, Tryz.ntmps94
   go_wp2_with fail
   go_ret
   rw [HN.out]
   exact ⟨rfl, rfl⟩
  ·have h64b : decide (64 < (s.size : Int)) = false := by simp; omega
   go_enter Tryz.func94, Tryz.ntmps94
   go_wp2_with fail
   go_loop [3] (fun i => ∃ k : Nat, k ≤ s.size ∧ i = .int .i64 k ∧ (∀ (j : Nat) (h : j < s.size), j < k → (letterB s[j] || otherB s[j]) = true) ∧ (0 < k → letterB s[0] = true)) (fun i => s.size - (intOf i).toNat)
   case atStart => exact ⟨0, Nat.zero_le _, rfl, fun j h hj => by omega, fun h => by omega⟩
   case round =>
    obtain ⟨k, hk, rfl, hall, hfirst⟩ := hrel
    have HALL := Lib.hid hall
    have HF := Lib.hid hfirst
    clear hall hfirst
    by_cases hlt : k < s.size
    ·by_cases h1 : 97 ≤ (s[k].toNat : Int)
     ·by_cases h2 : (s[k].toNat : Int) ≤ 122
      ·skip
       have f0 : decide (97 ≤ (s[k].toNat : Int)) = true := by first | (simp; done) | (simp; omega)
       have f1 : decide ((s[k].toNat : Int) ≤ 122) = true := by first | (simp; done) | (simp; omega)
       have f2 : decide (48 ≤ (s[k].toNat : Int)) = true := by first | (simp; done) | (simp; omega)
       have f3 : decide ((s[k].toNat : Int) ≤ 57) = false := by first | (simp; done) | (simp; omega)
       have f4 : ((s[k].toNat : Int) == 95) = false := by first | (simp; done) | (simp; omega)
       have HB := Lib.hid (show (letterB s[k] || otherB s[k]) = true by unfold letterB otherB; simp; omega)
       have HL := Lib.hid (show 0 < k + 1 → letterB s[0] = true from fun _ => (if hz : k = 0 then (by subst hz; unfold letterB; simp; omega) else HF.out (by omega)))
       go_wp2_with fail
       go_round
       case measure => (simp [intOf] <;> omega)
       refine ⟨k + 1, by omega, by go_num, fun j h hj => ?_, HL.out⟩
       by_cases e : j = k
       ·subst e; exact HB.out
       ·exact HALL.out j h (by omega)
      ·skip
       by_cases hk0 : k = 0
       ·have f0 : decide (97 ≤ (s[k].toNat : Int)) = true := by first | (simp; done) | (simp; omega)
        have f1 : decide ((s[k].toNat : Int) ≤ 122) = false := by first | (simp; done) | (simp; omega)
        have f2 : decide (48 ≤ (s[k].toNat : Int)) = true := by first | (simp; done) | (simp; omega)
        have f3 : decide ((s[k].toNat : Int) ≤ 57) = false := by first | (simp; done) | (simp; omega)
        have f4 : ((s[k].toNat : Int) == 95) = false := by first | (simp; done) | (simp; omega)
        have HN := Lib.hid (nameC_no (right_no_first (s := s) hp (by subst hk0; unfold letterB; simp; omega)))
        have hk0b : ((k : Int) == 0) = true := by simp; omega
        clear hk0
        go_wp2_with fail
        go_ret
        rw [HN.out]
        exact ⟨rfl, rfl⟩
       ·have f0 : decide (97 ≤ (s[k].toNat : Int)) = true := by first | (simp; done) | (simp; omega)
        have f1 : decide ((s[k].toNat : Int) ≤ 122) = false := by first | (simp; done) | (simp; omega)
        have f2 : decide (48 ≤ (s[k].toNat : Int)) = true := by first | (simp; done) | (simp; omega)
        have f3 : decide ((s[k].toNat : Int) ≤ 57) = false := by first | (simp; done) | (simp; omega)
        have f4 : ((s[k].toNat : Int) == 95) = false := by first | (simp; done) | (simp; omega)
        have hk0b : ((k : Int) == 0) = false := by simp; omega
        have HN := Lib.hid (nameC_no (right_no_at (s := s) hlt (by unfold letterB otherB; simp; omega)))
        go_wp2_with fail
        go_ret
        rw [HN.out]
        exact ⟨rfl, rfl⟩
     ·by_cases h3 : 48 ≤ (s[k].toNat : Int)
      ·by_cases h4 : (s[k].toNat : Int) ≤ 57
       ·skip
        by_cases hk0 : k = 0
        ·have f0 : decide (97 ≤ (s[k].toNat : Int)) = false := by first | (simp; done) | (simp; omega)
         have f1 : decide (48 ≤ (s[k].toNat : Int)) = true := by first | (simp; done) | (simp; omega)
         have f2 : decide ((s[k].toNat : Int) ≤ 57) = true := by first | (simp; done) | (simp; omega)
         have HN := Lib.hid (nameC_no (right_no_first (s := s) hp (by subst hk0; unfold letterB; simp; omega)))
         have hk0b : ((k : Int) == 0) = true := by simp; omega
         clear hk0
         go_wp2_with fail
         go_ret
         rw [HN.out]
         exact ⟨rfl, rfl⟩
        ·have f0 : decide (97 ≤ (s[k].toNat : Int)) = false := by first | (simp; done) | (simp; omega)
         have f1 : decide (48 ≤ (s[k].toNat : Int)) = true := by first | (simp; done) | (simp; omega)
         have f2 : decide ((s[k].toNat : Int) ≤ 57) = true := by first | (simp; done) | (simp; omega)
         have hk0 : ((k : Int) == 0) = false := by simp; omega
         have HB := Lib.hid (show (letterB s[k] || otherB s[k]) = true by unfold letterB otherB; simp; omega)
         have HL := Lib.hid (show 0 < k + 1 → letterB s[0] = true from fun _ => HF.out (by omega))
         go_wp2_with fail
         go_round
         case measure => (simp [intOf] <;> omega)
         refine ⟨k + 1, by omega, by go_num, fun j h hj => ?_, HL.out⟩
         by_cases e : j = k
         ·subst e; exact HB.out
         ·exact HALL.out j h (by omega)
       ·by_cases h5 : (s[k].toNat : Int) = 95
        ·skip
         by_cases hk0 : k = 0
         ·have f0 : decide (97 ≤ (s[k].toNat : Int)) = false := by first | (simp; done) | (simp; omega)
          have f1 : decide (48 ≤ (s[k].toNat : Int)) = true := by first | (simp; done) | (simp; omega)
          have f2 : decide ((s[k].toNat : Int) ≤ 57) = false := by first | (simp; done) | (simp; omega)
          have f3 : ((s[k].toNat : Int) == 95) = true := by first | (simp; done) | (simp; omega)
          have HN := Lib.hid (nameC_no (right_no_first (s := s) hp (by subst hk0; unfold letterB; simp; omega)))
          have hk0b : ((k : Int) == 0) = true := by simp; omega
          clear hk0
          go_wp2_with fail
          go_ret
          rw [HN.out]
          exact ⟨rfl, rfl⟩
         ·have f0 : decide (97 ≤ (s[k].toNat : Int)) = false := by first | (simp; done) | (simp; omega)
          have f1 : decide (48 ≤ (s[k].toNat : Int)) = true := by first | (simp; done) | (simp; omega)
          have f2 : decide ((s[k].toNat : Int) ≤ 57) = false := by first | (simp; done) | (simp; omega)
          have f3 : ((s[k].toNat : Int) == 95) = true := by first | (simp; done) | (simp; omega)
          have hk0 : ((k : Int) == 0) = false := by simp; omega
          have HB := Lib.hid (show (letterB s[k] || otherB s[k]) = true by unfold letterB otherB; simp; omega)
          have HL := Lib.hid (show 0 < k + 1 → letterB s[0] = true from fun _ => HF.out (by omega))
          go_wp2_with fail
          go_round
          case measure => (simp [intOf] <;> omega)
          refine ⟨k + 1, by omega, by go_num, fun j h hj => ?_, HL.out⟩
          by_cases e : j = k
          ·subst e; exact HB.out
          ·exact HALL.out j h (by omega)
        ·skip
         by_cases hk0 : k = 0
         ·have f0 : decide (97 ≤ (s[k].toNat : Int)) = false := by first | (simp; done) | (simp; omega)
          have f1 : decide (48 ≤ (s[k].toNat : Int)) = true := by first | (simp; done) | (simp; omega)
          have f2 : decide ((s[k].toNat : Int) ≤ 57) = false := by first | (simp; done) | (simp; omega)
          have f3 : ((s[k].toNat : Int) == 95) = false := by first | (simp; done) | (simp; omega)
          have HN := Lib.hid (nameC_no (right_no_first (s := s) hp (by subst hk0; unfold letterB; simp; omega)))
          have hk0b : ((k : Int) == 0) = true := by simp; omega
          clear hk0
          go_wp2_with fail
          go_ret
          rw [HN.out]
          exact ⟨rfl, rfl⟩
         ·have f0 : decide (97 ≤ (s[k].toNat : Int)) = false := by first | (simp; done) | (simp; omega)
          have f1 : decide (48 ≤ (s[k].toNat : Int)) = true := by first | (simp; done) | (simp; omega)
          have f2 : decide ((s[k].toNat : Int) ≤ 57) = false := by first | (simp; done) | (simp; omega)
          have f3 : ((s[k].toNat : Int) == 95) = false := by first | (simp; done) | (simp; omega)
          have hk0b : ((k : Int) == 0) = false := by simp; omega
          have HN := Lib.hid (nameC_no (right_no_at (s := s) hlt (by unfold letterB otherB; simp; omega)))
          go_wp2_with fail
          go_ret
          rw [HN.out]
          exact ⟨rfl, rfl⟩
      ·skip
       by_cases hk0 : k = 0
       ·have f0 : decide (97 ≤ (s[k].toNat : Int)) = false := by first | (simp; done) | (simp; omega)
        have f1 : decide (48 ≤ (s[k].toNat : Int)) = false := by first | (simp; done) | (simp; omega)
        have f2 : ((s[k].toNat : Int) == 95) = false := by first | (simp; done) | (simp; omega)
        have HN := Lib.hid (nameC_no (right_no_first (s := s) hp (by subst hk0; unfold letterB; simp; omega)))
        have hk0b : ((k : Int) == 0) = true := by simp; omega
        clear hk0
        go_wp2_with fail
        go_ret
        rw [HN.out]
        exact ⟨rfl, rfl⟩
       ·have f0 : decide (97 ≤ (s[k].toNat : Int)) = false := by first | (simp; done) | (simp; omega)
        have f1 : decide (48 ≤ (s[k].toNat : Int)) = false := by first | (simp; done) | (simp; omega)
        have f2 : ((s[k].toNat : Int) == 95) = false := by first | (simp; done) | (simp; omega)
        have hk0b : ((k : Int) == 0) = false := by simp; omega
        have HN := Lib.hid (nameC_no (right_no_at (s := s) hlt (by unfold letterB otherB; simp; omega)))
        go_wp2_with fail
        go_ret
        rw [HN.out]
        exact ⟨rfl, rfl⟩
    ·obtain rfl : k = s.size := by omega
     have HN := Lib.hid (nameC_yes (right_yes (s := s) (by omega) (by omega) (HF.out hp) (fun j h => HALL.out j h h)))
     go_wp2_with fail
     go_ret
     rw [HN.out]
     exact ⟨rfl, rfl⟩
end Go.Proofs.YtniocgnfgpaioaaGreat.Mo
end
section
namespace Go.Proofs.YtniocgnfgpaioaaGreat.Mo
open Go Go.RowKit Go.Proofs.YtniocgnfgpaioaaGreat.Lb

theorem findM_some {α : Type} {f : α → ByteArray} {xs : List α} {s : ByteArray} {k : Nat} {x : α} (h : ∀ (j : Nat) (x : α), j < k → xs[j]? = some x → (f x).toList ≠ s.toList) (hk : xs[k]? = some x) (e : (f x).toList = s.toList) : findI (xs.map f) s = k :=
 findI_some (t := f x) (fun j t hj ht => by
  rw [List.getElem?_map] at ht
  obtain ⟨v, hv, e⟩ := Option.map_eq_some_iff.1 ht
  subst e
  exact h j v hj hv) (by rw [List.getElem?_map, hk]; rfl) e
theorem findM_none {α : Type} {f : α → ByteArray} {xs : List α} {s : ByteArray} (h : ∀ (j : Nat) (x : α), j < xs.length → xs[j]? = some x → (f x).toList ≠ s.toList) : findI (xs.map f) s = -1 :=
 findI_none (fun j t hj ht => by
  rw [List.getElem?_map] at ht
  obtain ⟨v, hv, e⟩ := Option.map_eq_some_iff.1 ht
  subst e
  exact h j v (by simpa using hj) hv)
def Pr.cs (p : Pr) : Value := .agg #[.string p.name, .int .i64 p.weight, .slice p.va p.vs.length p.vc, .slice p.sa p.ss.length p.sc]
def Lk.cs (l : Lk) : Value := .agg #[.string l.name, .string l.src, .string l.dst, .int .i64 l.delay, .int .i64 l.weight]
def Ev.cs (e : Ev) : Value := .agg #[.string e.to, .int .i64 e.at_, .int .i64 e.value]
theorem RProcs.nil {w w' : World} {A : Option Addr} {ps : List Pr} (h : RProcs w A ps) (hk : Kept Nil w w') : RProcs w' A ps := by
 rcases h with h | ⟨b, off, h, hc⟩
 ·exact .inl h
 ·exact .inr ⟨b, off, h, fun j p hj => by obtain ⟨h1, h2, h3, h4⟩ := hc j p hj; exact ⟨hk.cell h1 (fun h => h), hk.cell h2 (fun h => h), hk.cell h3 (fun h => h), hk.cell h4 (fun h => h)⟩⟩
theorem RLinks.nil {w w' : World} {A : Option Addr} {ps : List Lk} (h : RLinks w A ps) (hk : Kept Nil w w') : RLinks w' A ps := by
 rcases h with h | ⟨b, off, h, hc⟩
 ·exact .inl h
 ·exact .inr ⟨b, off, h, fun j p hj => by obtain ⟨h1, h2, h3, h4, h5⟩ := hc j p hj; exact ⟨hk.cell h1 (fun h => h), hk.cell h2 (fun h => h), hk.cell h3 (fun h => h), hk.cell h4 (fun h => h), hk.cell h5 (fun h => h)⟩⟩
theorem REvents.nil {w w' : World} {A : Option Addr} {ps : List Ev} (h : REvents w A ps) (hk : Kept Nil w w') : REvents w' A ps := by
 rcases h with h | ⟨b, off, h, hc⟩
 ·exact .inl h
 ·exact .inr ⟨b, off, h, fun j p hj => by obtain ⟨h1, h2, h3⟩ := hc j p hj; exact ⟨hk.cell h1 (fun h => h), hk.cell h2 (fun h => h), hk.cell h3 (fun h => h)⟩⟩
theorem REvents.at {w : World} {A : Option Addr} {es : List Ev} (h : REvents w A es) {k : Nat} {e : Ev} (hv : es[k]? = some e) :
  ∃ b off, A = some ⟨b, off, none⟩ ∧ w.cell? ⟨b, off + k * 3, none⟩ = some (.string e.to) ∧ w.cell? ⟨b, off + k * 3 + 1, none⟩ = some (.int .i64 e.at_) ∧ w.cell? ⟨b, off + k * 3 + 2, none⟩ = some (.int .i64 e.value) := by
 rcases h with rfl | ⟨b, off, h, hc⟩
 ·simp at hv
 ·exact ⟨b, off, h, hc k e hv⟩
set_option maxHeartbeats 2000000 in
theorem RefProc_is (m : Md) (s : ByteArray) (w : World) (hr : RModel w m) : Calls Tryz.prog 22 #[m.val, .string s] w fun e w' => e = .returned (.int .i64 (findI (m.ps.map Pr.name) s)) ∧ Kept Nil w w' := by
 have HR := Lib.hid hr
 have hvl := hr.pl
 unfold maxLen at hvl
 clear hr
 obtain ⟨ver, pa, ps, pc, la, ls, lc, ea, es, ec⟩ := m
 unfold Md.val
 simp only at *
 go_enter Tryz.func22, Tryz.ntmps22
 go_wp2_with fail
 obtain ⟨W0, hW0⟩ : ∃ W0, w.alloc (.cells #[.int .i64 ver, .slice pa ps.length pc, .slice la ls.length lc, .slice ea es.length ec] 26) = W0 := ⟨_, rfl⟩
 have hk0 : Kept Nil w W0 := by rw [← hW0]; exact (Kept.refl Nil w).alloc _
 have hp2 : W0.cell? ⟨w.heap.size, 1, none⟩ = some (.slice pa ps.length pc) := by rw [← hW0]; simp
 have HK0 := Lib.hid hk0
 have HP2 := Lib.hid hp2
 rw [hW0]
 clear hW0 hk0 hp2
 go_loopw [5] (fun i wr => ∃ k : Nat, k ≤ ps.length ∧ i = .int .i64 k ∧ (∀ (j : Nat) (v : Pr), j < k → ps[j]? = some v → v.name.toList ≠ s.toList) ∧ Kept Nil W0 wr) (fun i _ => ps.length - (intOf i).toNat)
 case atStart => exact ⟨0, Nat.zero_le _, rfl, fun j v h => by omega, Kept.refl _ _⟩
 case round =>
  obtain ⟨k, hk, rfl, hne, hK⟩ := hrel
  have HNE := Lib.hid hne
  have HK := Lib.hid (HK0.out.step hK)
  have HK2 := Lib.hid hK
  have p2 := hK.cell HP2.out (fun h => h)
  clear hne hK
  by_cases hlt : k < ps.length
  ·obtain ⟨v, ev⟩ : ∃ v, ps[k]? = some v := ⟨_, List.getElem?_eq_getElem hlt⟩
   obtain ⟨b, off, e1, c0, c1, c2, c3⟩ := ((HR.out.nil HK.out).p).at ev
   simp only at e1
   subst e1
   have HEV := Lib.hid ev
   clear ev
   by_cases hn : v.name.toList = s.toList
   ·have hb : (v.name.toList == s.toList) = true := by simp [hn]
    have HV := Lib.hid (findM_some HNE.out HEV.out hn)
    clear hn
    go_wp2_with fail
    go_ret
    exact ⟨by rw [HV.out]; rfl, HK.out⟩
   ·have hb : (v.name.toList == s.toList) = false := by simp [hn]
    have HN := Lib.hid hn
    clear hn
    go_wp2_with fail
    go_round
    case measure => (simp [intOf] <;> omega)
    refine ⟨k + 1, by omega, by go_num, fun j u hj hu => ?_, HK2.out⟩
    by_cases e : j = k
    ·subst e
     rw [HEV.out] at hu; cases hu
     exact HN.out
    ·exact HNE.out j u (by omega) hu
  ·obtain rfl : k = ps.length := by omega
   have HV := Lib.hid (findM_none (f := Pr.name) HNE.out)
   go_wp2_with fail
   go_ret
   exact ⟨by rw [HV.out]; rfl, HK.out⟩
set_option maxHeartbeats 2000000 in
theorem RefLink_is (m : Md) (s : ByteArray) (w : World) (hr : RModel w m) : Calls Tryz.prog 98 #[m.val, .string s] w fun e w' => e = .returned (.int .i64 (findI (m.ls.map Lk.name) s)) ∧ Kept Nil w w' := by
 have HR := Lib.hid hr
 have hvl := hr.ll
 unfold maxLen at hvl
 clear hr
 obtain ⟨ver, pa, ps, pc, la, ls, lc, ea, es, ec⟩ := m
 unfold Md.val
 simp only at *
 go_enter Tryz.func98, Tryz.ntmps98
 go_wp2_with fail
 obtain ⟨W0, hW0⟩ : ∃ W0, w.alloc (.cells #[.int .i64 ver, .slice pa ps.length pc, .slice la ls.length lc, .slice ea es.length ec] 26) = W0 := ⟨_, rfl⟩
 have hk0 : Kept Nil w W0 := by rw [← hW0]; exact (Kept.refl Nil w).alloc _
 have hp2 : W0.cell? ⟨w.heap.size, 2, none⟩ = some (.slice la ls.length lc) := by rw [← hW0]; simp
 have HK0 := Lib.hid hk0
 have HP2 := Lib.hid hp2
 rw [hW0]
 clear hW0 hk0 hp2
 go_loopw [5] (fun i wr => ∃ k : Nat, k ≤ ls.length ∧ i = .int .i64 k ∧ (∀ (j : Nat) (v : Lk), j < k → ls[j]? = some v → v.name.toList ≠ s.toList) ∧ Kept Nil W0 wr) (fun i _ => ls.length - (intOf i).toNat)
 case atStart => exact ⟨0, Nat.zero_le _, rfl, fun j v h => by omega, Kept.refl _ _⟩
 case round =>
  obtain ⟨k, hk, rfl, hne, hK⟩ := hrel
  have HNE := Lib.hid hne
  have HK := Lib.hid (HK0.out.step hK)
  have HK2 := Lib.hid hK
  have p2 := hK.cell HP2.out (fun h => h)
  clear hne hK
  by_cases hlt : k < ls.length
  ·obtain ⟨v, ev⟩ : ∃ v, ls[k]? = some v := ⟨_, List.getElem?_eq_getElem hlt⟩
   obtain ⟨b, off, e1, c0, c1, c2, c3, c4⟩ := ((HR.out.nil HK.out).l).at ev
   simp only at e1
   subst e1
   have HEV := Lib.hid ev
   clear ev
   by_cases hn : v.name.toList = s.toList
   ·have hb : (v.name.toList == s.toList) = true := by simp [hn]
    have HV := Lib.hid (findM_some HNE.out HEV.out hn)
    clear hn
    go_wp2_with fail
    go_ret
    exact ⟨by rw [HV.out]; rfl, HK.out⟩
   ·have hb : (v.name.toList == s.toList) = false := by simp [hn]
    have HN := Lib.hid hn
    clear hn
    go_wp2_with fail
    go_round
    case measure => (simp [intOf] <;> omega)
    refine ⟨k + 1, by omega, by go_num, fun j u hj hu => ?_, HK2.out⟩
    by_cases e : j = k
    ·subst e
     rw [HEV.out] at hu; cases hu
     exact HN.out
    ·exact HNE.out j u (by omega) hu
  ·obtain rfl : k = ls.length := by omega
   have HV := Lib.hid (findM_none (f := Lk.name) HNE.out)
   go_wp2_with fail
   go_ret
   exact ⟨by rw [HV.out]; rfl, HK.out⟩
end Go.Proofs.YtniocgnfgpaioaaGreat.Mo
end
section
namespace Go.Proofs.YtniocgnfgpaioaaGreat.Mo
open Go Go.RowKit Go.Proofs.YtniocgnfgpaioaaGreat.Lb

theorem Within_is (n lo hi : Int) (w : World) : Calls Tryz.prog 89 #[.int .i64 n, .int .i64 lo, .int .i64 hi] w fun e w' => e = .returned (.bool (decide (lo ≤ n) && decide (n ≤ hi))) ∧ w = w' := by
 by_cases h1 : lo ≤ n
 ·have h1b : decide (lo ≤ n) = true := decide_eq_true h1
  go_enter Tryz.func89, Tryz.ntmps89
  go_wp2
  all_goals
   go_ret
   exact ⟨by simp [*], rfl⟩
 ·have h1b : decide (lo ≤ n) = false := decide_eq_false h1
  go_enter Tryz.func89, Tryz.ntmps89
  go_wp2
  go_ret
  exact ⟨by simp [h1b], rfl⟩
theorem number_is (n : Int) (w : World) : Calls Tryz.prog 90 #[.int .i64 n] w fun e w' => e = .returned (.bool (numB n)) ∧ w = w' := by
 go_enter Tryz.func90, Tryz.ntmps90
 go_wp2_with fail
 refine (Within_is n _ _ _).mono ?_
 rintro e w1 ⟨rfl, rfl⟩
 rw [show (decide ((-1099511627776 : Int) ≤ n) && decide (n ≤ 1099511627776)) = numB n from rfl]
 go_wp2_with fail
 go_ret
 exact ⟨rfl, rfl⟩
theorem RefNumber_is (n : Int) (w : World) : Calls Tryz.prog 61 #[.int .i64 n] w fun e w' => e = .returned (.bool (numB n)) ∧ w = w' := by
 unfold numB
 by_cases h1 : (-1099511627776 : Int) ≤ n
 ·have h1b : decide ((-1099511627776 : Int) ≤ n) = true := decide_eq_true h1
  go_enter Tryz.func61, Tryz.ntmps61
  go_wp2
  all_goals
   go_ret
   exact ⟨by simp [*], rfl⟩
 ·have h1b : decide ((-1099511627776 : Int) ≤ n) = false := decide_eq_false h1
  go_enter Tryz.func61, Tryz.ntmps61
  go_wp2
  go_ret
  exact ⟨by simp [h1b], rfl⟩

theorem emp_facts {s : ByteArray} (h : ¬ s.toList = []) : s.toList.isEmpty = false ∧ (!s.toList.isEmpty) = true := by
 cases hl : s.toList with
 | nil => exact absurd hl h
 | cons a l => simp
set_option maxHeartbeats 2000000 in
theorem RefArg_is (p : Pr) (s : S) (w : World) (hr : RProc w p) : Calls Tryz.prog 122 #[p.val, s.arg] w fun e w' => e = .returned (.int .i64 (argC p.vs s)) ∧ Kept Nil w w' := by
 have HR := Lib.hid hr
 clear hr
 obtain ⟨pn, pw, va, vs, vc, sa, ss, pc_⟩ := p
 obtain ⟨k0, nm, ak, an, as_⟩ := s
 unfold Pr.val S.arg
 simp only
 obtain ⟨x, hx⟩ : ∃ x, varIx vs as_ = x := ⟨_, rfl⟩
 have HX := Lib.hid hx
 clear hx
 have hk0 : Kept Nil w ((w.alloc (.cells #[.string pn, .int .i64 pw, .slice va vs.length vc, .slice sa ss.length pc_] 34)).alloc (.cells #[.int .i64 ak, .int .i64 an, .string as_] 36)) := ((Kept.refl Nil w).alloc _).alloc _
 by_cases hq1 : ak = 0
 ·skip
  have fq1_0y : (ak == 0) = true := by first | (simp [hq1]; done) | (simp; omega) | (simp at hq1 ⊢; exact hq1) | exact hq1
  by_cases hq2 : numB an = true
  ·skip
   have fq2_0y : numB an = true := by first | (simp [hq2]; done) | (simp; omega) | (simp at hq2 ⊢; exact hq2) | exact hq2
   by_cases hq3 : as_.toList = []
   ·skip
    have fq3_0y : as_.toList = [] := by first | (simp [hq3]; done) | (simp; omega) | (simp at hq3 ⊢; exact hq3) | exact hq3
    have HN := Lib.hid (show argC vs ⟨k0, nm, ak, an, as_⟩ = 0 by unfold argC; simp only; simp [HX.out, *])
    clear hq1 hq2 hq3
    go_enter Tryz.func122, Tryz.ntmps122
    go_wp2_with (first | (go_at_call 96; refine (RefVar_is _ as_ _ (HR.out.nil (by repeat (first | exact kzr _ _ | assumption | refine kzd ?_ | refine kzn ?_ _ | refine kza ?_ _ | refine kzs ?_ (by assumption))))).mono ?_; rintro e w1 ⟨rfl, hk1⟩; rw [show varIx _ _ = _ from HX.out]; obtain ⟨hc1, hf1⟩ := hk1.rules; have hz1 : w.heap.size + 1 < w1.heap.size := by have := hk1.size; simp at this; omega) | (go_at_call 61; refine (RefNumber_is an _).mono ?_; rintro e w1 ⟨rfl, rfl⟩))
    go_ret
    exact ⟨by rw [HN.out]; rfl, (by repeat (first | exact kzr _ _ | assumption | refine kzd ?_ | refine kzn ?_ _ | refine kza ?_ _ | refine kzs ?_ (by assumption)))⟩
   ·skip
    have fq3_0n : as_.toList.isEmpty = false := by first | (simp [hq3]; done) | (simp; omega) | (simp at hq3 ⊢; exact hq3) | exact hq3
    have fq3_1n : (!as_.toList.isEmpty) = true := by first | (simp [hq3]; done) | (simp; omega) | (simp at hq3 ⊢; exact hq3) | exact hq3
    have HN := Lib.hid (show argC vs ⟨k0, nm, ak, an, as_⟩ = 21 by unfold argC; simp only; simp [HX.out, *])
    clear hq1 hq2 hq3
    go_enter Tryz.func122, Tryz.ntmps122
    go_wp2_with (first | (go_at_call 96; refine (RefVar_is _ as_ _ (HR.out.nil (by repeat (first | exact kzr _ _ | assumption | refine kzd ?_ | refine kzn ?_ _ | refine kza ?_ _ | refine kzs ?_ (by assumption))))).mono ?_; rintro e w1 ⟨rfl, hk1⟩; rw [show varIx _ _ = _ from HX.out]; obtain ⟨hc1, hf1⟩ := hk1.rules; have hz1 : w.heap.size + 1 < w1.heap.size := by have := hk1.size; simp at this; omega) | (go_at_call 61; refine (RefNumber_is an _).mono ?_; rintro e w1 ⟨rfl, rfl⟩))
    go_ret
    exact ⟨by rw [HN.out]; rfl, (by repeat (first | exact kzr _ _ | assumption | refine kzd ?_ | refine kzn ?_ _ | refine kza ?_ _ | refine kzs ?_ (by assumption)))⟩
  ·skip
   have fq2_0n : numB an = false := by first | (simp [hq2]; done) | (simp; omega) | (simp at hq2 ⊢; exact hq2) | exact hq2
   have HN := Lib.hid (show argC vs ⟨k0, nm, ak, an, as_⟩ = 23 by unfold argC; simp only; simp [HX.out, *])
   clear hq1 hq2
   go_enter Tryz.func122, Tryz.ntmps122
   go_wp2_with (first | (go_at_call 96; refine (RefVar_is _ as_ _ (HR.out.nil (by repeat (first | exact kzr _ _ | assumption | refine kzd ?_ | refine kzn ?_ _ | refine kza ?_ _ | refine kzs ?_ (by assumption))))).mono ?_; rintro e w1 ⟨rfl, hk1⟩; rw [show varIx _ _ = _ from HX.out]; obtain ⟨hc1, hf1⟩ := hk1.rules; have hz1 : w.heap.size + 1 < w1.heap.size := by have := hk1.size; simp at this; omega) | (go_at_call 61; refine (RefNumber_is an _).mono ?_; rintro e w1 ⟨rfl, rfl⟩))
   go_ret
   exact ⟨by rw [HN.out]; rfl, (by repeat (first | exact kzr _ _ | assumption | refine kzd ?_ | refine kzn ?_ _ | refine kza ?_ _ | refine kzs ?_ (by assumption)))⟩
 ·skip
  have fq1_0n : (ak == 0) = false := by first | (simp [hq1]; done) | (simp; omega) | (simp at hq1 ⊢; exact hq1) | exact hq1
  by_cases hq4 : an = 0
  ·skip
   have fq4_0y : (an != 0) = false := by first | (simp [hq4]; done) | (simp; omega) | (simp at hq4 ⊢; exact hq4) | exact hq4
   by_cases hq5 : ak = 1
   ·skip
    have fq5_0y : (ak == 1) = true := by first | (simp [hq5]; done) | (simp; omega) | (simp at hq5 ⊢; exact hq5) | exact hq5
    have fq5_1y : (ak == 2) = false := by first | (simp [hq5]; done) | (simp; omega) | (simp at hq5 ⊢; exact hq5) | exact hq5
    by_cases hq6 : x < 0
    ·skip
     have fq6_0y : decide (x < 0) = true := by first | (simp [hq6]; done) | (simp; omega) | (simp at hq6 ⊢; exact hq6) | exact hq6
     have HN := Lib.hid (show argC vs ⟨k0, nm, ak, an, as_⟩ = 4 by unfold argC; simp only; simp [HX.out, *])
     clear hq1 hq4 hq5 hq6
     go_enter Tryz.func122, Tryz.ntmps122
     go_wp2_with (first | (go_at_call 96; refine (RefVar_is _ as_ _ (HR.out.nil (by repeat (first | exact kzr _ _ | assumption | refine kzd ?_ | refine kzn ?_ _ | refine kza ?_ _ | refine kzs ?_ (by assumption))))).mono ?_; rintro e w1 ⟨rfl, hk1⟩; rw [show varIx _ _ = _ from HX.out]; obtain ⟨hc1, hf1⟩ := hk1.rules; have hz1 : w.heap.size + 1 < w1.heap.size := by have := hk1.size; simp at this; omega) | (go_at_call 61; refine (RefNumber_is an _).mono ?_; rintro e w1 ⟨rfl, rfl⟩))
     go_ret
     exact ⟨by rw [HN.out]; rfl, (by repeat (first | exact kzr _ _ | assumption | refine kzd ?_ | refine kzn ?_ _ | refine kza ?_ _ | refine kzs ?_ (by assumption)))⟩
    ·skip
     have fq6_0n : decide (x < 0) = false := by first | (simp [hq6]; done) | (simp; omega) | (simp at hq6 ⊢; exact hq6) | exact hq6
     have HN := Lib.hid (show argC vs ⟨k0, nm, ak, an, as_⟩ = 0 by unfold argC; simp only; simp [HX.out, *])
     clear hq1 hq4 hq5 hq6
     go_enter Tryz.func122, Tryz.ntmps122
     go_wp2_with (first | (go_at_call 96; refine (RefVar_is _ as_ _ (HR.out.nil (by repeat (first | exact kzr _ _ | assumption | refine kzd ?_ | refine kzn ?_ _ | refine kza ?_ _ | refine kzs ?_ (by assumption))))).mono ?_; rintro e w1 ⟨rfl, hk1⟩; rw [show varIx _ _ = _ from HX.out]; obtain ⟨hc1, hf1⟩ := hk1.rules; have hz1 : w.heap.size + 1 < w1.heap.size := by have := hk1.size; simp at this; omega) | (go_at_call 61; refine (RefNumber_is an _).mono ?_; rintro e w1 ⟨rfl, rfl⟩))
     go_ret
     exact ⟨by rw [HN.out]; rfl, (by repeat (first | exact kzr _ _ | assumption | refine kzd ?_ | refine kzn ?_ _ | refine kza ?_ _ | refine kzs ?_ (by assumption)))⟩
   ·skip
    have fq5_0n : (ak == 1) = false := by first | (simp [hq5]; done) | (simp; omega) | (simp at hq5 ⊢; exact hq5) | exact hq5
    by_cases hq7 : ak = 2
    ·skip
     have fq7_0y : (ak == 2) = true := by first | (simp [hq7]; done) | (simp; omega) | (simp at hq7 ⊢; exact hq7) | exact hq7
     by_cases hq8 : as_.toList = []
     ·skip
      have fq8_0y : as_.toList = [] := by first | (simp [hq8]; done) | (simp; omega) | (simp at hq8 ⊢; exact hq8) | exact hq8
      have HN := Lib.hid (show argC vs ⟨k0, nm, ak, an, as_⟩ = 0 by unfold argC; simp only; simp [HX.out, *])
      clear hq1 hq4 hq5 hq7 hq8
      go_enter Tryz.func122, Tryz.ntmps122
      go_wp2_with (first | (go_at_call 96; refine (RefVar_is _ as_ _ (HR.out.nil (by repeat (first | exact kzr _ _ | assumption | refine kzd ?_ | refine kzn ?_ _ | refine kza ?_ _ | refine kzs ?_ (by assumption))))).mono ?_; rintro e w1 ⟨rfl, hk1⟩; rw [show varIx _ _ = _ from HX.out]; obtain ⟨hc1, hf1⟩ := hk1.rules; have hz1 : w.heap.size + 1 < w1.heap.size := by have := hk1.size; simp at this; omega) | (go_at_call 61; refine (RefNumber_is an _).mono ?_; rintro e w1 ⟨rfl, rfl⟩))
      go_ret
      exact ⟨by rw [HN.out]; rfl, (by repeat (first | exact kzr _ _ | assumption | refine kzd ?_ | refine kzn ?_ _ | refine kza ?_ _ | refine kzs ?_ (by assumption)))⟩
     ·skip
      have fq8_0n : as_.toList.isEmpty = false := by first | (simp [hq8]; done) | (simp; omega) | (simp at hq8 ⊢; exact hq8) | exact hq8
      have fq8_1n : (!as_.toList.isEmpty) = true := by first | (simp [hq8]; done) | (simp; omega) | (simp at hq8 ⊢; exact hq8) | exact hq8
      have HN := Lib.hid (show argC vs ⟨k0, nm, ak, an, as_⟩ = 21 by unfold argC; simp only; simp [HX.out, *])
      clear hq1 hq4 hq5 hq7 hq8
      go_enter Tryz.func122, Tryz.ntmps122
      go_wp2_with (first | (go_at_call 96; refine (RefVar_is _ as_ _ (HR.out.nil (by repeat (first | exact kzr _ _ | assumption | refine kzd ?_ | refine kzn ?_ _ | refine kza ?_ _ | refine kzs ?_ (by assumption))))).mono ?_; rintro e w1 ⟨rfl, hk1⟩; rw [show varIx _ _ = _ from HX.out]; obtain ⟨hc1, hf1⟩ := hk1.rules; have hz1 : w.heap.size + 1 < w1.heap.size := by have := hk1.size; simp at this; omega) | (go_at_call 61; refine (RefNumber_is an _).mono ?_; rintro e w1 ⟨rfl, rfl⟩))
      go_ret
      exact ⟨by rw [HN.out]; rfl, (by repeat (first | exact kzr _ _ | assumption | refine kzd ?_ | refine kzn ?_ _ | refine kza ?_ _ | refine kzs ?_ (by assumption)))⟩
    ·skip
     have fq7_0n : (ak == 2) = false := by first | (simp [hq7]; done) | (simp; omega) | (simp at hq7 ⊢; exact hq7) | exact hq7
     have HN := Lib.hid (show argC vs ⟨k0, nm, ak, an, as_⟩ = 0 by unfold argC; simp only; simp [HX.out, *])
     clear hq1 hq4 hq5 hq7
     go_enter Tryz.func122, Tryz.ntmps122
     go_wp2_with (first | (go_at_call 96; refine (RefVar_is _ as_ _ (HR.out.nil (by repeat (first | exact kzr _ _ | assumption | refine kzd ?_ | refine kzn ?_ _ | refine kza ?_ _ | refine kzs ?_ (by assumption))))).mono ?_; rintro e w1 ⟨rfl, hk1⟩; rw [show varIx _ _ = _ from HX.out]; obtain ⟨hc1, hf1⟩ := hk1.rules; have hz1 : w.heap.size + 1 < w1.heap.size := by have := hk1.size; simp at this; omega) | (go_at_call 61; refine (RefNumber_is an _).mono ?_; rintro e w1 ⟨rfl, rfl⟩))
     go_ret
     exact ⟨by rw [HN.out]; rfl, (by repeat (first | exact kzr _ _ | assumption | refine kzd ?_ | refine kzn ?_ _ | refine kza ?_ _ | refine kzs ?_ (by assumption)))⟩
  ·skip
   have fq4_0n : (an != 0) = true := by first | (simp [hq4]; done) | (simp; omega) | (simp at hq4 ⊢; exact hq4) | exact hq4
   have HN := Lib.hid (show argC vs ⟨k0, nm, ak, an, as_⟩ = 21 by unfold argC; simp only; simp [HX.out, *])
   clear hq1 hq4
   go_enter Tryz.func122, Tryz.ntmps122
   go_wp2_with (first | (go_at_call 96; refine (RefVar_is _ as_ _ (HR.out.nil (by repeat (first | exact kzr _ _ | assumption | refine kzd ?_ | refine kzn ?_ _ | refine kza ?_ _ | refine kzs ?_ (by assumption))))).mono ?_; rintro e w1 ⟨rfl, hk1⟩; rw [show varIx _ _ = _ from HX.out]; obtain ⟨hc1, hf1⟩ := hk1.rules; have hz1 : w.heap.size + 1 < w1.heap.size := by have := hk1.size; simp at this; omega) | (go_at_call 61; refine (RefNumber_is an _).mono ?_; rintro e w1 ⟨rfl, rfl⟩))
   go_ret
   exact ⟨by rw [HN.out]; rfl, (by repeat (first | exact kzr _ _ | assumption | refine kzd ?_ | refine kzn ?_ _ | refine kza ?_ _ | refine kzs ?_ (by assumption)))⟩
end Go.Proofs.YtniocgnfgpaioaaGreat.Mo
end
