/- The walks of the checker's weight, there and step. -/
import Derived.Test.YthgbahlkflmgiaaCkStep
import Derived.Test.YthgbahlkflmgiaaIxS
namespace Go.Proofs.Ythgbahlkflmgiaa.Mo
open Go Go.RowKit Go.Proofs.Ythgbahlkflmgiaa.Lb
set_option linter.unusedVariables false
set_option linter.unusedSimpArgs false

theorem ix_none {b k : Nat} {ns : List ByteArray} {W : World} (h : IxS Try.prog 9 3 b k (ixF ns) W) (s : ByteArray) (hs : s.size ≤ maxLen) (hn : findI ns s < 0) :
    ∀ nq, (Instr.lookup 65 (.map (some b)) (.string s) true).run Try.prog (W.drewN nq) = .ok (.tuple #[.int .i64 0, .bool false]) (W.drewN nq) := fun nq => by
  rw [(h.nil ((Kept.refl Nil W).drewN nq)).lookOk Try.underlying9 Try.underlying3 Try.underlying65 (fun w => by kernel_rfl) s hs]
  rw [findI_ixF] at hn
  have e : ixF ns s.data.toList = none := by
    cases h : ixF ns s.data.toList with
    | none => rfl
    | some n =>
      rw [show ky s = s.data.toList from rfl, h] at hn
      unfold ixF at h
      obtain ⟨j, _, hj⟩ := Option.map_eq_some_iff.1 h
      subst hj
      first | (simp at hn; done) | (simp at hn; omega)
  rw [e]; rfl
theorem ix_at {ns : List ByteArray} {s : ByteArray} {j : Nat} (hn : findI ns s = (j : Int)) : ixF ns s.data.toList = some (j : Int) := by
  rw [findI_ixF, show ky s = s.data.toList from rfl] at hn
  cases h : ixF ns s.data.toList with
  | none => rw [h] at hn; first | (simp at hn; done) | (simp at hn; omega)
  | some n => rw [h] at hn; simp at hn; rw [hn]
theorem ix_some {b k : Nat} {ns : List ByteArray} {W : World} (h : IxS Try.prog 9 3 b k (ixF ns) W) (s : ByteArray) (hs : s.size ≤ maxLen) {j : Nat} (hn : findI ns s = (j : Int)) :
    ∀ nq, (Instr.lookup 65 (.map (some b)) (.string s) true).run Try.prog (W.drewN nq) = .ok (.tuple #[.int .i64 (j : Int), .bool true]) (W.drewN nq) := fun nq => by
  rw [(h.nil ((Kept.refl Nil W).drewN nq)).lookOk Try.underlying9 Try.underlying3 Try.underlying65 (fun w => by kernel_rfl) s hs, ix_at hn]
  rfl
theorem ix_val {b k : Nat} {ns : List ByteArray} {W : World} (h : IxS Try.prog 9 3 b k (ixF ns) W) (s : ByteArray) (hs : s.size ≤ maxLen) {j : Nat} (hn : findI ns s = (j : Int)) :
    ∀ nq, (Instr.lookup 65 (.map (some b)) (.string s) false).run Try.prog (W.drewN nq) = .ok (.int .i64 (j : Int)) (W.drewN nq) := fun nq => by
  rw [(h.nil ((Kept.refl Nil W).drewN nq)).look Try.underlying9 Try.underlying3 Try.underlying65 (fun w => by kernel_rfl) s hs, ix_at hn]
  rfl
/-- The checker that lies in block c. -/
structure CkAt (W : World) (c bp bl : Nat) (m : Md) : Prop where
  hd : W.heap[c]? = some (.cells #[.int .i64 m.version, .slice m.pa m.ps.length m.pc, .slice m.la m.ls.length m.lc, .slice m.ea m.es.length m.ec, .map (some bp), .map (some bl)] 72 (0, 0))
  pm : ∃ k, IxS Try.prog 9 3 bp k (ixF (m.ps.map Pr.name)) W
  lm : ∃ k, IxS Try.prog 9 3 bl k (ixF (m.ls.map Lk.name)) W
theorem CkAt.nil {W W' : World} {c bp bl : Nat} {m : Md} (h : CkAt W c bp bl m) (hk : Kept Nil W W') : CkAt W' c bp bl m :=
  ⟨hk.heap h.hd (fun h => h), let ⟨k, h1⟩ := h.pm; ⟨k, h1.nil hk⟩, let ⟨k, h1⟩ := h.lm; ⟨k, h1.nil hk⟩⟩
theorem CkAt.cells {W : World} {c bp bl : Nat} {m : Md} (h : CkAt W c bp bl m) : W.cell? ⟨c, 0, none⟩ = some (.int .i64 m.version) ∧ W.cell? ⟨c, 1, none⟩ = some (.slice m.pa m.ps.length m.pc) ∧ W.cell? ⟨c, 2, none⟩ = some (.slice m.la m.ls.length m.lc) ∧
    W.cell? ⟨c, 3, none⟩ = some (.slice m.ea m.es.length m.ec) ∧ W.cell? ⟨c, 4, none⟩ = some (.map (some bp)) ∧ W.cell? ⟨c, 5, none⟩ = some (.map (some bl)) ∧ c < W.heap.size :=
  ⟨by rw [cell_of h.hd]; rfl, by rw [cell_of h.hd]; rfl, by rw [cell_of h.hd]; rfl, by rw [cell_of h.hd]; rfl, by rw [cell_of h.hd]; rfl, by rw [cell_of h.hd]; rfl, (Array.getElem?_eq_some_iff.1 h.hd).1⟩
theorem CkWeight_is {c bp bl : Nat} {m : Md} (n : Int) (w : World) (h : CkAt w c bp bl m) : Calls Try.prog 54 #[.pointer (some ⟨c, 0, none⟩), .int .i64 n] w fun e w' => e = .returned (.bool (wtB m.version n)) ∧ w = w' := by
  obtain ⟨h0, -⟩ := h.cells
  obtain ⟨ver, pa, ps, pc, la, ls, lc, ea, es, ec⟩ := m
  simp only at *
  clear h
  by_cases hq1 : 1 ≤ n
  · skip
    have fq1_0y : decide (1 ≤ n) = true := by first | (simp [hq1]; done) | (simp; omega) | (simp at hq1 ⊢; exact hq1) | exact hq1
    have fq1_1y : (n == 0) = false := by first | (simp [hq1]; done) | (simp; omega) | (simp at hq1 ⊢; exact hq1) | exact hq1
    by_cases hq2 : n ≤ 1048576
    · skip
      have fq2_0y : decide (n ≤ 1048576) = true := by first | (simp [hq2]; done) | (simp; omega) | (simp at hq2 ⊢; exact hq2) | exact hq2
      have HN := Lib.hid (show wtB ver n = true by unfold wtB; simp [*])
      clear hq1 hq2
      go_enter Try.func54, Try.ntmps54
      go_wp2_with (first | (go_at_call 58; refine (Within_is n 1 1048576 _).mono ?_; rintro e w1 ⟨rfl, rfl⟩))
      go_ret
      exact ⟨by rw [HN.out]; rfl, rfl⟩
    · skip
      have fq2_0n : decide (n ≤ 1048576) = false := by first | (simp [hq2]; done) | (simp; omega) | (simp at hq2 ⊢; exact hq2) | exact hq2
      have HN := Lib.hid (show wtB ver n = false by unfold wtB; simp [*])
      clear hq1 hq2
      go_enter Try.func54, Try.ntmps54
      go_wp2_with (first | (go_at_call 58; refine (Within_is n 1 1048576 _).mono ?_; rintro e w1 ⟨rfl, rfl⟩))
      go_ret
      exact ⟨by rw [HN.out]; rfl, rfl⟩
  · skip
    have fq1_0n : decide (1 ≤ n) = false := by first | (simp [hq1]; done) | (simp; omega) | (simp at hq1 ⊢; exact hq1) | exact hq1
    by_cases hq3 : n = 0
    · skip
      have fq3_0y : (n == 0) = true := by first | (simp [hq3]; done) | (simp; omega) | (simp at hq3 ⊢; exact hq3) | exact hq3
      by_cases hq4 : ver < 3
      · skip
        have fq4_0y : decide (ver < 3) = true := by first | (simp [hq4]; done) | (simp; omega) | (simp at hq4 ⊢; exact hq4) | exact hq4
        have HN := Lib.hid (show wtB ver n = true by unfold wtB; simp [*])
        clear hq1 hq3 hq4
        go_enter Try.func54, Try.ntmps54
        go_wp2_with (first | (go_at_call 58; refine (Within_is n 1 1048576 _).mono ?_; rintro e w1 ⟨rfl, rfl⟩))
        go_ret
        exact ⟨by rw [HN.out]; rfl, rfl⟩
      · skip
        have fq4_0n : decide (ver < 3) = false := by first | (simp [hq4]; done) | (simp; omega) | (simp at hq4 ⊢; exact hq4) | exact hq4
        have HN := Lib.hid (show wtB ver n = false by unfold wtB; simp [*])
        clear hq1 hq3 hq4
        go_enter Try.func54, Try.ntmps54
        go_wp2_with (first | (go_at_call 58; refine (Within_is n 1 1048576 _).mono ?_; rintro e w1 ⟨rfl, rfl⟩))
        go_ret
        exact ⟨by rw [HN.out]; rfl, rfl⟩
    · skip
      have fq3_0n : (n == 0) = false := by first | (simp [hq3]; done) | (simp; omega) | (simp at hq3 ⊢; exact hq3) | exact hq3
      have HN := Lib.hid (show wtB ver n = false by unfold wtB; simp [*])
      clear hq1 hq3
      go_enter Try.func54, Try.ntmps54
      go_wp2_with (first | (go_at_call 58; refine (Within_is n 1 1048576 _).mono ?_; rintro e w1 ⟨rfl, rfl⟩))
      go_ret
      exact ⟨by rw [HN.out]; rfl, rfl⟩
theorem There_is {c bp bl : Nat} {m : Md} (s : ByteArray) (w : World) (h : CkAt w c bp bl m) (hs : s.size ≤ maxLen) : Calls Try.prog 57 #[.pointer (some ⟨c, 0, none⟩), .string s] w fun e w' => e = .returned (.bool (!decide (findI (m.ps.map Pr.name) s < 0))) ∧ w = w' := by
  obtain ⟨_, _, _, _, h4, _, hc⟩ := h.cells
  obtain ⟨k, hp⟩ := h.pm
  rcases findI_neg1 (m.ps.map Pr.name) s with hn | ⟨j, hn, -⟩
  · have hlook : (Instr.lookup 65 (.map (some bp)) (.string s) true).run Try.prog w = .ok (.tuple #[.int .i64 0, .bool false]) w := ix_none hp s hs (by omega) 0
    have HN := Lib.hid hn
    clear h hp hn
    go_enter Try.func57, Try.ntmps57
    go_wp2_with fail
    go_ret
    exact ⟨by rw [HN.out]; rfl, rfl⟩
  · have hlook : (Instr.lookup 65 (.map (some bp)) (.string s) true).run Try.prog w = .ok (.tuple #[.int .i64 (j : Int), .bool true]) w := ix_some hp s hs hn 0
    have HN := Lib.hid hn
    clear h hp hn
    go_enter Try.func57, Try.ntmps57
    go_wp2_with fail
    go_ret
    exact ⟨by rw [HN.out, decide_eq_false (by omega)]; rfl, rfl⟩
end Go.Proofs.Ythgbahlkflmgiaa.Mo
