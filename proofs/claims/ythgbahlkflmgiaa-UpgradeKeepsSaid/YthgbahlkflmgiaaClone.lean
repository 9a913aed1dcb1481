/- The walks of slices.Clone. -/
import Derived.Test.YthgbahlkflmgiaaModelRows
import Derived.Test.YthgbahlkflmgiaaCkBare
import Derived.Test.YthgbahlkflmgiaaColl
namespace Go.Proofs.Ythgbahlkflmgiaa.Mo
open Go Go.RowKit Go.Proofs.Ythgbahlkflmgiaa.Lb
set_option linter.unusedVariables false
set_option linter.unusedSimpArgs false
set_option maxRecDepth 8000
theorem infoCP : (Try.prog.info? 52).map (fun i => (i.zero, i.size, i.bytes)) = some (some (.agg #[.string ⟨#[]⟩, .int .i64 0, .slice none 0 0, .slice none 0 0]), 4, 72) := by kernel_rfl
set_option maxHeartbeats 2000000 in
theorem CloneP_is (l : List Pr) (A : Option Addr) (cap : Nat) (w : World) (hr : RowOf w A 4 prCells l) (hn : A = none → cap = 0) (hl : l.length ≤ 100000) :
    Calls Try.prog 42 #[.slice A l.length cap] w fun e w' => ∃ v, e = .returned v ∧ w'.ownsRow w.heap.size 52 4 v l.length (l.flatMap prCells) ∧ Kept Nil w w' := by
  obtain ⟨j0, hjnf, hy0, hy1, hy2⟩ := info_parts infoCP
  cases A with
  | none =>
    have h0 : l = [] := by rcases hr with h | ⟨b, off, h, _⟩; exact h; cases h
    have hc := hn rfl
    subst h0 hc
    simp only [List.length_nil]
    have hnil : ∀ w : World, (binOp .eql 22 (.slice none 0 0) (.slice none 0 0)).run Try.prog w = .ok (.bool true) w := fun _ => by kernel_rfl
    go_enter Try.func42, Try.ntmps42
    go_wp2_with fail
    go_ret
    exact ⟨_, rfl, World.ownsRow_nil _ _ _ _, Kept.refl _ _⟩
  | some a =>
    have HR := Lib.hid hr
    clear hr hn
    have hsome : ∀ (n c : Nat) (w : World), (binOp .eql 22 (.slice (some a) n c) (.slice none 0 0)).run Try.prog w = .ok (.bool false) w := fun _ _ _ => by kernel_rfl
    go_enter Try.func42, Try.ntmps42
    go_wp2_with (at_builtin; refine stop_append _ _ _ rfl ?_)
    unfold StopA
    refine wpList_append_src rfl _ _ 22 rfl w.heap.size 52 j0 (.agg #[.string ⟨#[]⟩, .int .i64 0, .slice none 0 0, .slice none 0 0]) 4 72 Try.underlying22 hjnf hy0 hy1 hy2 rfl (by decide) (.slice (some ⟨w.heap.size, 0, none⟩) 0 0) 0 [] rfl (World.ownsRow_lit (base := w.heap.size) (e := 52) (size := 4) w #[] 0 (Nat.le_refl _) (by decide) rfl) (.slice (some a) l.length cap) l.length (l.flatMap prCells) rfl ((rowOf_nil prCells_len ((Kept.refl Nil w).alloc _) HR.out).src prCells_len (by decide) (fun h => by cases h)) (prCells_one l) (by unfold maxLen; omega) (by omega) (by simp) ?_
    intro v5 w5 hown5 hgrow5
    rw [Nat.zero_add, List.nil_append] at hown5
    have hk5 : Kept Nil w w5 := ((Kept.refl Nil w).alloc (.cells #[] 52)).grown hgrow5 (fun j e => .inr (by have h9 : w.heap.size = j := (by simpa [Value.ownBlock] using e); omega))
    obtain ⟨A5, c5, rfl⟩ := own_slice hown5
    have HO := Lib.hid hown5
    have HK := Lib.hid hk5
    clear hown5 hgrow5 hk5
    go_wp2_with fail
    go_ret
    exact ⟨_, rfl, HO.out, HK.out⟩
theorem infoCL : (Try.prog.info? 48).map (fun i => (i.zero, i.size, i.bytes)) = some (some (.agg #[.string ⟨#[]⟩, .string ⟨#[]⟩, .string ⟨#[]⟩, .int .i64 0, .int .i64 0]), 5, 64) := by kernel_rfl
set_option maxHeartbeats 2000000 in
theorem CloneL_is (l : List Lk) (A : Option Addr) (cap : Nat) (w : World) (hr : RowOf w A 5 lkCells l) (hn : A = none → cap = 0) (hl : l.length ≤ 100000) :
    Calls Try.prog 40 #[.slice A l.length cap] w fun e w' => ∃ v, e = .returned v ∧ w'.ownsRow w.heap.size 48 5 v l.length (l.flatMap lkCells) ∧ Kept Nil w w' := by
  obtain ⟨j0, hjnf, hy0, hy1, hy2⟩ := info_parts infoCL
  cases A with
  | none =>
    have h0 : l = [] := by rcases hr with h | ⟨b, off, h, _⟩; exact h; cases h
    have hc := hn rfl
    subst h0 hc
    simp only [List.length_nil]
    have hnil : ∀ w : World, (binOp .eql 23 (.slice none 0 0) (.slice none 0 0)).run Try.prog w = .ok (.bool true) w := fun _ => by kernel_rfl
    go_enter Try.func40, Try.ntmps40
    go_wp2_with fail
    go_ret
    exact ⟨_, rfl, World.ownsRow_nil _ _ _ _, Kept.refl _ _⟩
  | some a =>
    have HR := Lib.hid hr
    clear hr hn
    have hsome : ∀ (n c : Nat) (w : World), (binOp .eql 23 (.slice (some a) n c) (.slice none 0 0)).run Try.prog w = .ok (.bool false) w := fun _ _ _ => by kernel_rfl
    go_enter Try.func40, Try.ntmps40
    go_wp2_with (at_builtin; refine stop_append _ _ _ rfl ?_)
    unfold StopA
    refine wpList_append_src rfl _ _ 23 rfl w.heap.size 48 j0 (.agg #[.string ⟨#[]⟩, .string ⟨#[]⟩, .string ⟨#[]⟩, .int .i64 0, .int .i64 0]) 5 64 Try.underlying23 hjnf hy0 hy1 hy2 rfl (by decide) (.slice (some ⟨w.heap.size, 0, none⟩) 0 0) 0 [] rfl (World.ownsRow_lit (base := w.heap.size) (e := 48) (size := 5) w #[] 0 (Nat.le_refl _) (by decide) rfl) (.slice (some a) l.length cap) l.length (l.flatMap lkCells) rfl ((rowOf_nil lkCells_len ((Kept.refl Nil w).alloc _) HR.out).src lkCells_len (by decide) (fun h => by cases h)) (lkCells_one l) (by unfold maxLen; omega) (by omega) (by simp) ?_
    intro v5 w5 hown5 hgrow5
    rw [Nat.zero_add, List.nil_append] at hown5
    have hk5 : Kept Nil w w5 := ((Kept.refl Nil w).alloc (.cells #[] 48)).grown hgrow5 (fun j e => .inr (by have h9 : w.heap.size = j := (by simpa [Value.ownBlock] using e); omega))
    obtain ⟨A5, c5, rfl⟩ := own_slice hown5
    have HO := Lib.hid hown5
    have HK := Lib.hid hk5
    clear hown5 hgrow5 hk5
    go_wp2_with fail
    go_ret
    exact ⟨_, rfl, HO.out, HK.out⟩
theorem infoCE : (Try.prog.info? 57).map (fun i => (i.zero, i.size, i.bytes)) = some (some (.agg #[.string ⟨#[]⟩, .int .i64 0, .int .i64 0]), 3, 32) := by kernel_rfl
set_option maxHeartbeats 2000000 in
theorem CloneE_is (l : List Ev) (A : Option Addr) (cap : Nat) (w : World) (hr : RowOf w A 3 evCells l) (hn : A = none → cap = 0) (hl : l.length ≤ 100000) :
    Calls Try.prog 43 #[.slice A l.length cap] w fun e w' => ∃ v, e = .returned v ∧ w'.ownsRow w.heap.size 57 3 v l.length (l.flatMap evCells) ∧ Kept Nil w w' := by
  obtain ⟨j0, hjnf, hy0, hy1, hy2⟩ := info_parts infoCE
  cases A with
  | none =>
    have h0 : l = [] := by rcases hr with h | ⟨b, off, h, _⟩; exact h; cases h
    have hc := hn rfl
    subst h0 hc
    simp only [List.length_nil]
    have hnil : ∀ w : World, (binOp .eql 24 (.slice none 0 0) (.slice none 0 0)).run Try.prog w = .ok (.bool true) w := fun _ => by kernel_rfl
    go_enter Try.func43, Try.ntmps43
    go_wp2_with fail
    go_ret
    exact ⟨_, rfl, World.ownsRow_nil _ _ _ _, Kept.refl _ _⟩
  | some a =>
    have HR := Lib.hid hr
    clear hr hn
    have hsome : ∀ (n c : Nat) (w : World), (binOp .eql 24 (.slice (some a) n c) (.slice none 0 0)).run Try.prog w = .ok (.bool false) w := fun _ _ _ => by kernel_rfl
    go_enter Try.func43, Try.ntmps43
    go_wp2_with (at_builtin; refine stop_append _ _ _ rfl ?_)
    unfold StopA
    refine wpList_append_src rfl _ _ 24 rfl w.heap.size 57 j0 (.agg #[.string ⟨#[]⟩, .int .i64 0, .int .i64 0]) 3 32 Try.underlying24 hjnf hy0 hy1 hy2 rfl (by decide) (.slice (some ⟨w.heap.size, 0, none⟩) 0 0) 0 [] rfl (World.ownsRow_lit (base := w.heap.size) (e := 57) (size := 3) w #[] 0 (Nat.le_refl _) (by decide) rfl) (.slice (some a) l.length cap) l.length (l.flatMap evCells) rfl ((rowOf_nil evCells_len ((Kept.refl Nil w).alloc _) HR.out).src evCells_len (by decide) (fun h => by cases h)) (evCells_one l) (by unfold maxLen; omega) (by omega) (by simp) ?_
    intro v5 w5 hown5 hgrow5
    rw [Nat.zero_add, List.nil_append] at hown5
    have hk5 : Kept Nil w w5 := ((Kept.refl Nil w).alloc (.cells #[] 57)).grown hgrow5 (fun j e => .inr (by have h9 : w.heap.size = j := (by simpa [Value.ownBlock] using e); omega))
    obtain ⟨A5, c5, rfl⟩ := own_slice hown5
    have HO := Lib.hid hown5
    have HK := Lib.hid hk5
    clear hown5 hgrow5 hk5
    go_wp2_with fail
    go_ret
    exact ⟨_, rfl, HO.out, HK.out⟩
theorem infoCV : (Try.prog.info? 80).map (fun i => (i.zero, i.size, i.bytes)) = some (some (.agg #[.string ⟨#[]⟩, .int .i64 0]), 2, 24) := by kernel_rfl
set_option maxHeartbeats 2000000 in
theorem CloneV_is (l : List V) (A : Option Addr) (cap : Nat) (w : World) (hr : RowOf w A 2 vrCells l) (hn : A = none → cap = 0) (hl : l.length ≤ 100000) :
    Calls Try.prog 44 #[.slice A l.length cap] w fun e w' => ∃ v, e = .returned v ∧ w'.ownsRow w.heap.size 80 2 v l.length (l.flatMap vrCells) ∧ Kept Nil w w' := by
  obtain ⟨j0, hjnf, hy0, hy1, hy2⟩ := info_parts infoCV
  cases A with
  | none =>
    have h0 : l = [] := by rcases hr with h | ⟨b, off, h, _⟩; exact h; cases h
    have hc := hn rfl
    subst h0 hc
    simp only [List.length_nil]
    have hnil : ∀ w : World, (binOp .eql 49 (.slice none 0 0) (.slice none 0 0)).run Try.prog w = .ok (.bool true) w := fun _ => by kernel_rfl
    go_enter Try.func44, Try.ntmps44
    go_wp2_with fail
    go_ret
    exact ⟨_, rfl, World.ownsRow_nil _ _ _ _, Kept.refl _ _⟩
  | some a =>
    have HR := Lib.hid hr
    clear hr hn
    have hsome : ∀ (n c : Nat) (w : World), (binOp .eql 49 (.slice (some a) n c) (.slice none 0 0)).run Try.prog w = .ok (.bool false) w := fun _ _ _ => by kernel_rfl
    go_enter Try.func44, Try.ntmps44
    go_wp2_with (at_builtin; refine stop_append _ _ _ rfl ?_)
    unfold StopA
    refine wpList_append_src rfl _ _ 49 rfl w.heap.size 80 j0 (.agg #[.string ⟨#[]⟩, .int .i64 0]) 2 24 Try.underlying49 hjnf hy0 hy1 hy2 rfl (by decide) (.slice (some ⟨w.heap.size, 0, none⟩) 0 0) 0 [] rfl (World.ownsRow_lit (base := w.heap.size) (e := 80) (size := 2) w #[] 0 (Nat.le_refl _) (by decide) rfl) (.slice (some a) l.length cap) l.length (l.flatMap vrCells) rfl ((rowOf_nil vrCells_len ((Kept.refl Nil w).alloc _) HR.out).src vrCells_len (by decide) (fun h => by cases h)) (vrCells_one l) (by unfold maxLen; omega) (by omega) (by simp) ?_
    intro v5 w5 hown5 hgrow5
    rw [Nat.zero_add, List.nil_append] at hown5
    have hk5 : Kept Nil w w5 := ((Kept.refl Nil w).alloc (.cells #[] 80)).grown hgrow5 (fun j e => .inr (by have h9 : w.heap.size = j := (by simpa [Value.ownBlock] using e); omega))
    obtain ⟨A5, c5, rfl⟩ := own_slice hown5
    have HO := Lib.hid hown5
    have HK := Lib.hid hk5
    clear hown5 hgrow5 hk5
    go_wp2_with fail
    go_ret
    exact ⟨_, rfl, HO.out, HK.out⟩
theorem infoCS : (Try.prog.info? 90).map (fun i => (i.zero, i.size, i.bytes)) = some (some (.agg #[.int .i64 0, .string ⟨#[]⟩, .int .i64 0, .int .i64 0, .string ⟨#[]⟩]), 5, 56) := by kernel_rfl
set_option maxHeartbeats 2000000 in
theorem CloneS_is (l : List S) (A : Option Addr) (cap : Nat) (w : World) (hr : RowOf w A 5 stCells l) (hn : A = none → cap = 0) (hl : l.length ≤ 100000) :
    Calls Try.prog 45 #[.slice A l.length cap] w fun e w' => ∃ v, e = .returned v ∧ w'.ownsRow w.heap.size 90 5 v l.length (l.flatMap stCells) ∧ Kept Nil w w' := by
  obtain ⟨j0, hjnf, hy0, hy1, hy2⟩ := info_parts infoCS
  cases A with
  | none =>
    have h0 : l = [] := by rcases hr with h | ⟨b, off, h, _⟩; exact h; cases h
    have hc := hn rfl
    subst h0 hc
    simp only [List.length_nil]
    have hnil : ∀ w : World, (binOp .eql 50 (.slice none 0 0) (.slice none 0 0)).run Try.prog w = .ok (.bool true) w := fun _ => by kernel_rfl
    go_enter Try.func45, Try.ntmps45
    go_wp2_with fail
    go_ret
    exact ⟨_, rfl, World.ownsRow_nil _ _ _ _, Kept.refl _ _⟩
  | some a =>
    have HR := Lib.hid hr
    clear hr hn
    have hsome : ∀ (n c : Nat) (w : World), (binOp .eql 50 (.slice (some a) n c) (.slice none 0 0)).run Try.prog w = .ok (.bool false) w := fun _ _ _ => by kernel_rfl
    go_enter Try.func45, Try.ntmps45
    go_wp2_with (at_builtin; refine stop_append _ _ _ rfl ?_)
    unfold StopA
    refine wpList_append_src rfl _ _ 50 rfl w.heap.size 90 j0 (.agg #[.int .i64 0, .string ⟨#[]⟩, .int .i64 0, .int .i64 0, .string ⟨#[]⟩]) 5 56 Try.underlying50 hjnf hy0 hy1 hy2 rfl (by decide) (.slice (some ⟨w.heap.size, 0, none⟩) 0 0) 0 [] rfl (World.ownsRow_lit (base := w.heap.size) (e := 90) (size := 5) w #[] 0 (Nat.le_refl _) (by decide) rfl) (.slice (some a) l.length cap) l.length (l.flatMap stCells) rfl ((rowOf_nil stCells_len ((Kept.refl Nil w).alloc _) HR.out).src stCells_len (by decide) (fun h => by cases h)) (stCells_one l) (by unfold maxLen; omega) (by omega) (by simp) ?_
    intro v5 w5 hown5 hgrow5
    rw [Nat.zero_add, List.nil_append] at hown5
    have hk5 : Kept Nil w w5 := ((Kept.refl Nil w).alloc (.cells #[] 90)).grown hgrow5 (fun j e => .inr (by have h9 : w.heap.size = j := (by simpa [Value.ownBlock] using e); omega))
    obtain ⟨A5, c5, rfl⟩ := own_slice hown5
    have HO := Lib.hid hown5
    have HK := Lib.hid hk5
    clear hown5 hgrow5 hk5
    go_wp2_with fail
    go_ret
    exact ⟨_, rfl, HO.out, HK.out⟩
end Go.Proofs.Ythgbahlkflmgiaa.Mo
