/- A map[string]int that a call makes, as a function of its keys. Nothing of the program is named; The walks of the checker's weight, there and step; The walk of the checker's step. -/
import Derived.Test.YtniocgnfgpaioaaGreatG1
import Derived.Maps.Own
import Derived.Maps.Views
import Derived.Maps.OwnOps
import Derived.Laws.Strings
import Derived.Test.YtniocgnfgpaioaaGreatG24
import Derived.Deep.Cut
import Derived.Deep.CutRange
set_option linter.unusedVariables false
set_option linter.unusedSimpArgs false
section
namespace Go.Proofs.YtniocgnfgpaioaaGreat.Lb
open Go Go.RowKit Go.Maps

/-- Block b is a map whose entries are those of f; at most k were put. -/
structure IxS (P : Program) (K E : TypeId) (b k : Nat) (f : List UInt8 → Option Int) (W : World) : Prop where
 own : ∃ D : DataW Unit, W.ownsMap P K (plainElem P E) b k D ∧ ∀ t : List UInt8, (f t = none → ∀ z, D.atKey (.string t) z = z) ∧ (∀ n, f t = some n → ∀ z, D.atKey (.string t) z = .lit (.int .i64 n))
theorem IxS.made (w : World) (P : Program) (K E : TypeId) : IxS P K E w.heap.size 0 (fun _ => none) (w.alloc (.map #[] 0)) :=
 ⟨.map [], World.ownsMap_made w P K _, fun t => ⟨fun _ z => by simp [DataW.atKey], fun n h => by cases h⟩⟩
theorem IxS.block {P : Program} {K E : TypeId} {b k : Nat} {f : List UInt8 → Option Int} {W : World} (h : IxS P K E b k f W) : ∃ es clk, W.heap[b]? = some (.map es clk) := by
 obtain ⟨D, ⟨es, clock, hb, r⟩, hD⟩ := h.own
 exact ⟨es, clock, hb⟩
theorem IxS.same {P : Program} {K E : TypeId} {b k : Nat} {f : List UInt8 → Option Int} {W W' : World} (h : IxS P K E b k f W) (hk : W'.heap[b]? = W.heap[b]?) : IxS P K E b k f W' := by
 obtain ⟨D, ⟨es, clock, hb, r⟩, hD⟩ := h.own
 exact ⟨D, ⟨es, clock, by rw [hk]; exact hb, r⟩, hD⟩
theorem IxS.nil {P : Program} {K E : TypeId} {b k : Nat} {f : List UInt8 → Option Int} {W W' : World} (h : IxS P K E b k f W) (hk : Kept Nil W W') : IxS P K E b k f W' := by
 obtain ⟨es, clk, hb⟩ := h.block
 exact h.same (by rw [hk.heap hb (fun h => h), hb])
/-- m[s]: the number, or 0. -/
theorem IxS.look {P : Program} {K E T : TypeId} {b k : Nat} {f : List UInt8 → Option Int} {W : World} (h : IxS P K E b k f W) (hK : P.underlying K = some .string) (hE : P.underlying E = some (.int .i64)) (hT : P.underlying T = some (.map K E)) (hz : ∀ w, (zeroValue E).run P w = .ok (.int .i64 0) w) (s : ByteArray) (hs : s.size ≤ maxLen) :
  (Instr.lookup T (.map (some b)) (.string s) false).run P W = .ok (.int .i64 ((f s.data.toList).getD 0)) W := by
 obtain ⟨D, ho, hD⟩ := h.own
 obtain ⟨c, hrun, hat, _⟩ := ho.lookup_int (string_keyed hK) hT hE (hz W) (show keyOf P K (.string s) = some (.string s.data.toList) by simp [keyOf, hK, mapKey, hs])
 rw [hrun]
 cases hf : f s.data.toList with
 | none =>
  rw [(hD _).1 hf] at hat
  cases hat
  rfl
 | some n =>
  rw [(hD _).2 n hf] at hat
  cases hat
  rfl
/-- _, ok := m[s] and n, ok := m[s]. -/
theorem IxS.lookOk {P : Program} {K E T : TypeId} {b k : Nat} {f : List UInt8 → Option Int} {W : World} (h : IxS P K E b k f W) (hK : P.underlying K = some .string) (hE : P.underlying E = some (.int .i64)) (hT : P.underlying T = some (.map K E)) (hz : ∀ w, (zeroValue E).run P w = .ok (.int .i64 0) w) (s : ByteArray) (hs : s.size ≤ maxLen) :
  (Instr.lookup T (.map (some b)) (.string s) true).run P W = .ok (.tuple #[.int .i64 ((f s.data.toList).getD 0), .bool (f s.data.toList).isSome]) W := by
 obtain ⟨D, ⟨es, clock, hb, F, _, rfl⟩, hD⟩ := h.own
 rcases fit_look true (string_keyed hK) hT (hz W) hb F (show keyOf P K (.string s) = some (.string s.data.toList) by simp [keyOf, hK, mapKey, hs]) with ⟨hrun, _, hat⟩ | ⟨e0, y, _, _, hrun, hRv, hat, _⟩
 ·rw [hrun]
  cases hf : f s.data.toList with
  | none => rfl
  | some n =>
   have h1 := (hD s.data.toList).2 n hf (.lit (.bool true))
   rw [hat] at h1
   cases h1
 ·obtain ⟨c, e1, e2, _⟩ := plainElem_int_inv hE hRv
  rw [hrun, e1]
  cases hf : f s.data.toList with
  | none =>
   have h1 := (hD s.data.toList).1 hf (.lit (.bool true))
   rw [hat, e2] at h1
   cases h1
  | some n =>
   have h1 := (hD s.data.toList).2 n hf (.lit (.bool true))
   rw [hat, e2] at h1
   cases h1
   rfl
/-- Behind m[s] = n. -/
theorem IxS.put {P : Program} {K E : TypeId} {b k : Nat} {f : List UInt8 → Option Int} {W' : World} {D : DataW Unit} (hm : IsMap D)
  (hD : ∀ t : List UInt8, (f t = none → ∀ z, D.atKey (.string t) z = z) ∧ (∀ n, f t = some n → ∀ z, D.atKey (.string t) z = .lit (.int .i64 n))) (t0 : List UInt8) (n : Int)
  (h : W'.ownsMap P K (plainElem P E) b (k + 1) (D.put (.string t0) (.lit (.int .i64 n)))) : IxS P K E b (k + 1) (fun t => if t = t0 then some n else f t) W' := by
 refine ⟨_, h, fun t => ?_⟩
 by_cases e : t = t0
 ·subst e
  refine ⟨fun h => ?_, fun m hm' z => ?_⟩
  ·simp at h
  ·simp at hm'
   subst hm'
   exact atKey_put_same hm (by first | exact trivial | simp [WideAt.IsKeyLit] | decide) _ _
 ·simp only [if_neg e]
  refine ⟨fun h z => ?_, fun m hm' z => ?_⟩
  ·rw [atKey_put_other (fun h => e (by cases h; rfl)), (hD t).1 h]
  ·rw [atKey_put_other (fun h => e (by cases h; rfl)), (hD t).2 m hm']
theorem IxS.isMap {P : Program} {K E : TypeId} {b k : Nat} {D : DataW Unit} {W : World} (h : W.ownsMap P K (plainElem P E) b k D) : IsMap D := by
 obtain ⟨es, clock, hb, F, _, rfl⟩ := h
 exact ⟨_, rfl⟩
theorem IxS.weak {P : Program} {K E : TypeId} {b k k' : Nat} {f : List UInt8 → Option Int} {W : World} (h : IxS P K E b k f W) (hk : k ≤ k') : IxS P K E b k' f W := by
 obtain ⟨D, ho, hD⟩ := h.own
 exact ⟨D, ho.mono hk, hD⟩
theorem IxS.congr {P : Program} {K E : TypeId} {b k : Nat} {f g : List UInt8 → Option Int} {W : World} (h : IxS P K E b k f W) (he : ∀ t, f t = g t) : IxS P K E b k g W := by
 have : f = g := funext he
 rw [← this]; exact h
end Go.Proofs.YtniocgnfgpaioaaGreat.Lb
end
section
namespace Go.Proofs.YtniocgnfgpaioaaGreat.Mo
open Go Go.RowKit Go.Proofs.YtniocgnfgpaioaaGreat.Lb

theorem ix_none {b k : Nat} {ns : List ByteArray} {W : World} (h : IxS Tryz.prog 9 3 b k (ixF ns) W) (s : ByteArray) (hs : s.size ≤ maxLen) (hn : findI ns s < 0) :
  ∀ nq, (Instr.lookup 82 (.map (some b)) (.string s) true).run Tryz.prog (W.drewN nq) = .ok (.tuple #[.int .i64 0, .bool false]) (W.drewN nq) := fun nq => by
 rw [(h.nil ((Kept.refl Nil W).drewN nq)).lookOk Tryz.underlying9 Tryz.underlying3 Tryz.underlying82 (fun w => by kernel_rfl) s hs]
 rw [findI_ixF] at hn
 have e : ixF ns s.data.toList = none := by
  cases h : ixF ns s.data.toList with
  | none => rfl
  | some n =>
   rw [show ky s = s.data.toList from rfl, h] at hn
   unfold ixF at h
   obtain ⟨j, _, hj⟩ := Option.map_eq_some_iff.1 h
   subst hj
   first | (simp at hn; done) | (simp at hn; omega)
 rw [e]; rfl
theorem ix_at {ns : List ByteArray} {s : ByteArray} {j : Nat} (hn : findI ns s = (j : Int)) : ixF ns s.data.toList = some (j : Int) := by
 rw [findI_ixF, show ky s = s.data.toList from rfl] at hn
 cases h : ixF ns s.data.toList with
 | none => rw [h] at hn; first | (simp at hn; done) | (simp at hn; omega)
 | some n => rw [h] at hn; simp at hn; rw [hn]
theorem ix_some {b k : Nat} {ns : List ByteArray} {W : World} (h : IxS Tryz.prog 9 3 b k (ixF ns) W) (s : ByteArray) (hs : s.size ≤ maxLen) {j : Nat} (hn : findI ns s = (j : Int)) :
  ∀ nq, (Instr.lookup 82 (.map (some b)) (.string s) true).run Tryz.prog (W.drewN nq) = .ok (.tuple #[.int .i64 (j : Int), .bool true]) (W.drewN nq) := fun nq => by
 rw [(h.nil ((Kept.refl Nil W).drewN nq)).lookOk Tryz.underlying9 Tryz.underlying3 Tryz.underlying82 (fun w => by kernel_rfl) s hs, ix_at hn]
 rfl
theorem ix_val {b k : Nat} {ns : List ByteArray} {W : World} (h : IxS Tryz.prog 9 3 b k (ixF ns) W) (s : ByteArray) (hs : s.size ≤ maxLen) {j : Nat} (hn : findI ns s = (j : Int)) :
  ∀ nq, (Instr.lookup 82 (.map (some b)) (.string s) false).run Tryz.prog (W.drewN nq) = .ok (.int .i64 (j : Int)) (W.drewN nq) := fun nq => by
 rw [(h.nil ((Kept.refl Nil W).drewN nq)).look Tryz.underlying9 Tryz.underlying3 Tryz.underlying82 (fun w => by kernel_rfl) s hs, ix_at hn]
 rfl
/-- The checker that lies in block c. -/
structure CkAt (W : World) (c bp bl : Nat) (m : Md) : Prop where
 hd : W.heap[c]? = some (.cells #[.int .i64 m.version, .slice m.pa m.ps.length m.pc, .slice m.la m.ls.length m.lc, .slice m.ea m.es.length m.ec, .map (some bp), .map (some bl)] 88 (0, 0))
 pm : ∃ k, IxS Tryz.prog 9 3 bp k (ixF (m.ps.map Pr.name)) W
 lm : ∃ k, IxS Tryz.prog 9 3 bl k (ixF (m.ls.map Lk.name)) W
theorem CkAt.nil {W W' : World} {c bp bl : Nat} {m : Md} (h : CkAt W c bp bl m) (hk : Kept Nil W W') : CkAt W' c bp bl m :=
 ⟨hk.heap h.hd (fun h => h), let ⟨k, h1⟩ := h.pm; ⟨k, h1.nil hk⟩, let ⟨k, h1⟩ := h.lm; ⟨k, h1.nil hk⟩⟩
theorem CkAt.cells {W : World} {c bp bl : Nat} {m : Md} (h : CkAt W c bp bl m) : W.cell? ⟨c, 0, none⟩ = some (.int .i64 m.version) ∧ W.cell? ⟨c, 1, none⟩ = some (.slice m.pa m.ps.length m.pc) ∧ W.cell? ⟨c, 2, none⟩ = some (.slice m.la m.ls.length m.lc) ∧
  W.cell? ⟨c, 3, none⟩ = some (.slice m.ea m.es.length m.ec) ∧ W.cell? ⟨c, 4, none⟩ = some (.map (some bp)) ∧ W.cell? ⟨c, 5, none⟩ = some (.map (some bl)) ∧ c < W.heap.size :=
 ⟨by rw [cell_of h.hd]; rfl, by rw [cell_of h.hd]; rfl, by rw [cell_of h.hd]; rfl, by rw [cell_of h.hd]; rfl, by rw [cell_of h.hd]; rfl, by rw [cell_of h.hd]; rfl, (Array.getElem?_eq_some_iff.1 h.hd).1⟩
theorem CkWeight_is {c bp bl : Nat} {m : Md} (n : Int) (w : World) (h : CkAt w c bp bl m) : Calls Tryz.prog 85 #[.pointer (some ⟨c, 0, none⟩), .int .i64 n] w fun e w' => e = .returned (.bool (wtB m.version n)) ∧ w = w' := by
 obtain ⟨h0, -⟩ := h.cells
 obtain ⟨ver, pa, ps, pc, la, ls, lc, ea, es, ec⟩ := m
 simp only at *
 clear h
 by_cases hq1 : 1 ≤ n
 ·skip
  have fq1_0y : decide (1 ≤ n) = true := by first | (simp [hq1]; done) | (simp; omega) | (simp at hq1 ⊢; exact hq1) | exact hq1
  have fq1_1y : (n == 0) = false := by first | (simp [hq1]; done) | (simp; omega) | (simp at hq1 ⊢; exact hq1) | exact hq1
  by_cases hq2 : n ≤ 1048576
  ·skip
   have fq2_0y : decide (n ≤ 1048576) = true := by first | (simp [hq2]; done) | (simp; omega) | (simp at hq2 ⊢; exact hq2) | exact hq2
   have HN := Lib.hid (show wtB ver n = true by unfold wtB; simp [*])
   clear hq1 hq2
   go_enter Tryz.func85, Tryz.ntmps85
   go_wp2_with (first | (go_at_call 89; refine (Within_is n 1 1048576 _).mono ?_; rintro e w1 ⟨rfl, rfl⟩))
   go_ret
   exact ⟨by rw [HN.out]; rfl, rfl⟩
  ·skip
   have fq2_0n : decide (n ≤ 1048576) = false := by first | (simp [hq2]; done) | (simp; omega) | (simp at hq2 ⊢; exact hq2) | exact hq2
   have HN := Lib.hid (show wtB ver n = false by unfold wtB; simp [*])
   clear hq1 hq2
   go_enter Tryz.func85, Tryz.ntmps85
   go_wp2_with (first | (go_at_call 89; refine (Within_is n 1 1048576 _).mono ?_; rintro e w1 ⟨rfl, rfl⟩))
   go_ret
   exact ⟨by rw [HN.out]; rfl, rfl⟩
 ·skip
  have fq1_0n : decide (1 ≤ n) = false := by first | (simp [hq1]; done) | (simp; omega) | (simp at hq1 ⊢; exact hq1) | exact hq1
  by_cases hq3 : n = 0
  ·skip
   have fq3_0y : (n == 0) = true := by first | (simp [hq3]; done) | (simp; omega) | (simp at hq3 ⊢; exact hq3) | exact hq3
   by_cases hq4 : ver < 3
   ·skip
    have fq4_0y : decide (ver < 3) = true := by first | (simp [hq4]; done) | (simp; omega) | (simp at hq4 ⊢; exact hq4) | exact hq4
    have HN := Lib.hid (show wtB ver n = true by unfold wtB; simp [*])
    clear hq1 hq3 hq4
    go_enter Tryz.func85, Tryz.ntmps85
    go_wp2_with (first | (go_at_call 89; refine (Within_is n 1 1048576 _).mono ?_; rintro e w1 ⟨rfl, rfl⟩))
    go_ret
    exact ⟨by rw [HN.out]; rfl, rfl⟩
   ·skip
    have fq4_0n : decide (ver < 3) = false := by first | (simp [hq4]; done) | (simp; omega) | (simp at hq4 ⊢; exact hq4) | exact hq4
    have HN := Lib.hid (show wtB ver n = false by unfold wtB; simp [*])
    clear hq1 hq3 hq4
    go_enter Tryz.func85, Tryz.ntmps85
    go_wp2_with (first | (go_at_call 89; refine (Within_is n 1 1048576 _).mono ?_; rintro e w1 ⟨rfl, rfl⟩))
    go_ret
    exact ⟨by rw [HN.out]; rfl, rfl⟩
  ·skip
   have fq3_0n : (n == 0) = false := by first | (simp [hq3]; done) | (simp; omega) | (simp at hq3 ⊢; exact hq3) | exact hq3
   have HN := Lib.hid (show wtB ver n = false by unfold wtB; simp [*])
   clear hq1 hq3
   go_enter Tryz.func85, Tryz.ntmps85
   go_wp2_with (first | (go_at_call 89; refine (Within_is n 1 1048576 _).mono ?_; rintro e w1 ⟨rfl, rfl⟩))
   go_ret
   exact ⟨by rw [HN.out]; rfl, rfl⟩
theorem There_is {c bp bl : Nat} {m : Md} (s : ByteArray) (w : World) (h : CkAt w c bp bl m) (hs : s.size ≤ maxLen) : Calls Tryz.prog 88 #[.pointer (some ⟨c, 0, none⟩), .string s] w fun e w' => e = .returned (.bool (!decide (findI (m.ps.map Pr.name) s < 0))) ∧ w = w' := by
 obtain ⟨_, _, _, _, h4, _, hc⟩ := h.cells
 obtain ⟨k, hp⟩ := h.pm
 rcases findI_neg1 (m.ps.map Pr.name) s with hn | ⟨j, hn, -⟩
 ·have hlook : (Instr.lookup 82 (.map (some bp)) (.string s) true).run Tryz.prog w = .ok (.tuple #[.int .i64 0, .bool false]) w := ix_none hp s hs (by omega) 0
  have HN := Lib.hid hn
  clear h hp hn
  go_enter Tryz.func88, Tryz.ntmps88
  go_wp2_with fail
  go_ret
  exact ⟨by rw [HN.out]; rfl, rfl⟩
 ·have hlook : (Instr.lookup 82 (.map (some bp)) (.string s) true).run Tryz.prog w = .ok (.tuple #[.int .i64 (j : Int), .bool true]) w := ix_some hp s hs hn 0
  have HN := Lib.hid hn
  clear h hp hn
  go_enter Tryz.func88, Tryz.ntmps88
  go_wp2_with fail
  go_ret
  exact ⟨by rw [HN.out, decide_eq_false (by omega)]; rfl, rfl⟩
end Go.Proofs.YtniocgnfgpaioaaGreat.Mo
end
section
namespace Go.Proofs.YtniocgnfgpaioaaGreat.Mo
open Go Go.RowKit Go.Proofs.YtniocgnfgpaioaaGreat.Lb

set_option maxRecDepth 4000 in
set_option maxHeartbeats 8000000 in
theorem CkStep_is {c bp bl : Nat} {m : Md} (p : Pr) (s : S) (w : World) (hc : CkAt w c bp bl m) (hm : RModel w m) (hr : RProc w p) (hsz : s.name.size ≤ maxLen) : Calls Tryz.prog 87 #[.pointer (some ⟨c, 0, none⟩), p.val, s.val] w fun e w' => e = .returned (.int .i64 (stepC m.ls p s)) ∧ Kept Nil w w' := by
 have HR := Lib.hid hr
 have HM := Lib.hid hm
 have HC := Lib.hid hc
 have HS := Lib.hid hsz
 have hll := hm.ll
 unfold maxLen at hll
 clear hr hm hc hsz
 obtain ⟨ver, pa, ps, pc, la, ls, lc, ea, es, ec⟩ := m
 obtain ⟨pn, pw, va, vs, vc, sa, ss, pc_⟩ := p
 obtain ⟨k0, nm, ak, an, as_⟩ := s
 unfold Pr.val S.val
 simp only at *
 obtain ⟨x, hx⟩ : ∃ x, varIx vs nm = x := ⟨_, rfl⟩
 have HX := Lib.hid hx
 have HXN := Lib.hid (varIx_neg vs nm)
 obtain ⟨y, hy⟩ : ∃ y, findI (ls.map Lk.name) nm = y := ⟨_, rfl⟩
 have HY := Lib.hid hy
 obtain ⟨z, hz⟩ : ∃ z, argC vs ⟨k0, nm, ak, an, as_⟩ = z := ⟨_, rfl⟩
 have HZ := Lib.hid hz
 have HYN := Lib.hid (findI_neg1 (ls.map Lk.name) nm)
 clear hx hy hz
 obtain ⟨W1, hW⟩ : ∃ W, ((w.alloc (.cells #[.string pn, .int .i64 pw, .slice va vs.length vc, .slice sa ss.length pc_] 34)).alloc (.cells #[.int .i64 k0, .string nm, .int .i64 ak, .int .i64 an, .string as_] 38)) = W := ⟨_, rfl⟩
 have hk : Kept Nil w W1 := by rw [← hW]; exact (((Kept.refl Nil w).alloc _).alloc _)
 have hsz : W1.heap.size = w.heap.size + 2 := by rw [← hW]; simp
 have hb : W1.heap[w.heap.size]? = some (.cells #[.string pn, .int .i64 pw, .slice va vs.length vc, .slice sa ss.length pc_] 34 (0, 0)) := by
  rw [← hW]
  rw [heap_old _ _ (by simp only [World.size_alloc]; omega)]
  have h9 := heap_new w (.cells #[.string pn, .int .i64 pw, .slice va vs.length vc, .slice sa ss.length pc_] 34)
  exact h9
 have G0 := Lib.hid (show W1.cell? ⟨w.heap.size, 0, none⟩ = some (.string pn) by rw [cell_of hb]; rfl)
 have G1 := Lib.hid (show W1.cell? ⟨w.heap.size, 1, none⟩ = some (.int .i64 pw) by rw [cell_of hb]; rfl)
 have G2 := Lib.hid (show W1.cell? ⟨w.heap.size, 2, none⟩ = some (.slice va vs.length vc) by rw [cell_of hb]; rfl)
 have G3 := Lib.hid (show W1.cell? ⟨w.heap.size, 3, none⟩ = some (.slice sa ss.length pc_) by rw [cell_of hb]; rfl)
 have GB := Lib.hid hb
 have hzg : w.heap.size < W1.heap.size := by omega
 clear hb
 have hb : W1.heap[w.heap.size + 1]? = some (.cells #[.int .i64 k0, .string nm, .int .i64 ak, .int .i64 an, .string as_] 38 (0, 0)) := by
  rw [← hW]
  have h9 := heap_new (w.alloc (.cells #[.string pn, .int .i64 pw, .slice va vs.length vc, .slice sa ss.length pc_] 34)) (.cells #[.int .i64 k0, .string nm, .int .i64 ak, .int .i64 an, .string as_] 38)
  simp only [World.size_alloc] at h9
  exact h9
 have Q0 := Lib.hid (show W1.cell? ⟨w.heap.size + 1, 0, none⟩ = some (.int .i64 k0) by rw [cell_of hb]; rfl)
 have Q1 := Lib.hid (show W1.cell? ⟨w.heap.size + 1, 1, none⟩ = some (.string nm) by rw [cell_of hb]; rfl)
 have Q2 := Lib.hid (show W1.cell? ⟨w.heap.size + 1, 2, none⟩ = some (.int .i64 ak) by rw [cell_of hb]; rfl)
 have Q3 := Lib.hid (show W1.cell? ⟨w.heap.size + 1, 3, none⟩ = some (.int .i64 an) by rw [cell_of hb]; rfl)
 have Q4 := Lib.hid (show W1.cell? ⟨w.heap.size + 1, 4, none⟩ = some (.string as_) by rw [cell_of hb]; rfl)
 have QB := Lib.hid hb
 have hzq : w.heap.size + 1 < W1.heap.size := by omega
 clear hb
 have HW := Lib.hid hW
 have HK := Lib.hid hk
 have HSZ := Lib.hid hsz
 clear hW hk hsz
 have hk0 := HK.out
 rw [← HW.out] at hk0
 by_cases hq1 : k0 < 1
 ·skip
  have fq1_0y : decide (k0 < 1) = true := by first | (simp [hq1]; done) | (simp; omega) | (simp at hq1 ⊢; exact hq1) | exact hq1
  have HN := Lib.hid (show stepC ls ⟨pn, pw, va, vs, vc, sa, ss, pc_⟩ ⟨k0, nm, ak, an, as_⟩ = 21 by unfold stepC; simp only; simp [HX.out, HY.out, HZ.out, *])
  clear hq1
  go_enter Tryz.func87, Tryz.ntmps87
  go_wp2_with (first | (go_at_call 119; refine (Var_is _ nm _ (HR.out.nil (by repeat (first | exact kzr _ _ | assumption | refine kzd ?_ | refine kzn ?_ _ | refine kza ?_ _ | refine kzs ?_ (by assumption))))).mono ?_; rintro e w1 ⟨rfl, hk1⟩; rw [show varIx _ _ = _ from HX.out]; obtain ⟨hc1, hf1⟩ := hk1.rules; have hz1_0 : w.heap.size < w1.heap.size := (by have := hk1.size; first | omega | (simp at this; omega)); have hz1_1 : w.heap.size + 1 < w1.heap.size := (by have := hk1.size; first | omega | (simp at this; omega))) | (go_at_call 120; refine (Arg_is ⟨pn, pw, va, vs, vc, sa, ss, pc_⟩ ⟨k0, nm, ak, an, as_⟩ _ (HR.out.nil (by repeat (first | exact kzr _ _ | assumption | refine kzd ?_ | refine kzn ?_ _ | refine kza ?_ _ | refine kzs ?_ (by assumption))))).mono ?_; rintro e w2 ⟨rfl, hk2⟩; rw [show argC _ _ = _ from HZ.out]))
  go_ret
  exact ⟨by rw [HN.out]; rfl, (by repeat (first | exact kzr _ _ | assumption | refine kzd ?_ | refine kzn ?_ _ | refine kza ?_ _ | refine kzs ?_ (by assumption)))⟩
 ·skip
  have fq1_0n : decide (k0 < 1) = false := by first | (simp [hq1]; done) | (simp; omega) | (simp at hq1 ⊢; exact hq1) | exact hq1
  by_cases hq2 : 4 < k0
  ·skip
   have fq2_0y : decide (4 < k0) = true := by first | (simp [hq2]; done) | (simp; omega) | (simp at hq2 ⊢; exact hq2) | exact hq2
   have HN := Lib.hid (show stepC ls ⟨pn, pw, va, vs, vc, sa, ss, pc_⟩ ⟨k0, nm, ak, an, as_⟩ = 21 by unfold stepC; simp only; simp [HX.out, HY.out, HZ.out, *])
   clear hq1 hq2
   go_enter Tryz.func87, Tryz.ntmps87
   go_wp2_with (first | (go_at_call 119; refine (Var_is _ nm _ (HR.out.nil (by repeat (first | exact kzr _ _ | assumption | refine kzd ?_ | refine kzn ?_ _ | refine kza ?_ _ | refine kzs ?_ (by assumption))))).mono ?_; rintro e w1 ⟨rfl, hk1⟩; rw [show varIx _ _ = _ from HX.out]; obtain ⟨hc1, hf1⟩ := hk1.rules; have hz1_0 : w.heap.size < w1.heap.size := (by have := hk1.size; first | omega | (simp at this; omega)); have hz1_1 : w.heap.size + 1 < w1.heap.size := (by have := hk1.size; first | omega | (simp at this; omega))) | (go_at_call 120; refine (Arg_is ⟨pn, pw, va, vs, vc, sa, ss, pc_⟩ ⟨k0, nm, ak, an, as_⟩ _ (HR.out.nil (by repeat (first | exact kzr _ _ | assumption | refine kzd ?_ | refine kzn ?_ _ | refine kza ?_ _ | refine kzs ?_ (by assumption))))).mono ?_; rintro e w2 ⟨rfl, hk2⟩; rw [show argC _ _ = _ from HZ.out]))
   go_ret
   exact ⟨by rw [HN.out]; rfl, (by repeat (first | exact kzr _ _ | assumption | refine kzd ?_ | refine kzn ?_ _ | refine kza ?_ _ | refine kzs ?_ (by assumption)))⟩
  ·skip
   have fq2_0n : decide (4 < k0) = false := by first | (simp [hq2]; done) | (simp; omega) | (simp at hq2 ⊢; exact hq2) | exact hq2
   by_cases hq3 : ak < 0
   ·skip
    have fq3_0y : decide (ak < 0) = true := by first | (simp [hq3]; done) | (simp; omega) | (simp at hq3 ⊢; exact hq3) | exact hq3
    have HN := Lib.hid (show stepC ls ⟨pn, pw, va, vs, vc, sa, ss, pc_⟩ ⟨k0, nm, ak, an, as_⟩ = 21 by unfold stepC; simp only; simp [HX.out, HY.out, HZ.out, *])
    clear hq1 hq2 hq3
    go_enter Tryz.func87, Tryz.ntmps87
    go_wp2_with (first | (go_at_call 119; refine (Var_is _ nm _ (HR.out.nil (by repeat (first | exact kzr _ _ | assumption | refine kzd ?_ | refine kzn ?_ _ | refine kza ?_ _ | refine kzs ?_ (by assumption))))).mono ?_; rintro e w1 ⟨rfl, hk1⟩; rw [show varIx _ _ = _ from HX.out]; obtain ⟨hc1, hf1⟩ := hk1.rules; have hz1_0 : w.heap.size < w1.heap.size := (by have := hk1.size; first | omega | (simp at this; omega)); have hz1_1 : w.heap.size + 1 < w1.heap.size := (by have := hk1.size; first | omega | (simp at this; omega))) | (go_at_call 120; refine (Arg_is ⟨pn, pw, va, vs, vc, sa, ss, pc_⟩ ⟨k0, nm, ak, an, as_⟩ _ (HR.out.nil (by repeat (first | exact kzr _ _ | assumption | refine kzd ?_ | refine kzn ?_ _ | refine kza ?_ _ | refine kzs ?_ (by assumption))))).mono ?_; rintro e w2 ⟨rfl, hk2⟩; rw [show argC _ _ = _ from HZ.out]))
    go_ret
    exact ⟨by rw [HN.out]; rfl, (by repeat (first | exact kzr _ _ | assumption | refine kzd ?_ | refine kzn ?_ _ | refine kza ?_ _ | refine kzs ?_ (by assumption)))⟩
   ·skip
    have fq3_0n : decide (ak < 0) = false := by first | (simp [hq3]; done) | (simp; omega) | (simp at hq3 ⊢; exact hq3) | exact hq3
    by_cases hq4 : 2 < ak
    ·skip
     have fq4_0y : decide (2 < ak) = true := by first | (simp [hq4]; done) | (simp; omega) | (simp at hq4 ⊢; exact hq4) | exact hq4
     have HN := Lib.hid (show stepC ls ⟨pn, pw, va, vs, vc, sa, ss, pc_⟩ ⟨k0, nm, ak, an, as_⟩ = 21 by unfold stepC; simp only; simp [HX.out, HY.out, HZ.out, *])
     clear hq1 hq2 hq3 hq4
     go_enter Tryz.func87, Tryz.ntmps87
     go_wp2_with (first | (go_at_call 119; refine (Var_is _ nm _ (HR.out.nil (by repeat (first | exact kzr _ _ | assumption | refine kzd ?_ | refine kzn ?_ _ | refine kza ?_ _ | refine kzs ?_ (by assumption))))).mono ?_; rintro e w1 ⟨rfl, hk1⟩; rw [show varIx _ _ = _ from HX.out]; obtain ⟨hc1, hf1⟩ := hk1.rules; have hz1_0 : w.heap.size < w1.heap.size := (by have := hk1.size; first | omega | (simp at this; omega)); have hz1_1 : w.heap.size + 1 < w1.heap.size := (by have := hk1.size; first | omega | (simp at this; omega))) | (go_at_call 120; refine (Arg_is ⟨pn, pw, va, vs, vc, sa, ss, pc_⟩ ⟨k0, nm, ak, an, as_⟩ _ (HR.out.nil (by repeat (first | exact kzr _ _ | assumption | refine kzd ?_ | refine kzn ?_ _ | refine kza ?_ _ | refine kzs ?_ (by assumption))))).mono ?_; rintro e w2 ⟨rfl, hk2⟩; rw [show argC _ _ = _ from HZ.out]))
     go_ret
     exact ⟨by rw [HN.out]; rfl, (by repeat (first | exact kzr _ _ | assumption | refine kzd ?_ | refine kzn ?_ _ | refine kza ?_ _ | refine kzs ?_ (by assumption)))⟩
    ·skip
     have fq4_0n : decide (2 < ak) = false := by first | (simp [hq4]; done) | (simp; omega) | (simp at hq4 ⊢; exact hq4) | exact hq4
     by_cases hq5 : k0 = 4
     ·skip
      have fq5_0y : (k0 != 4) = false := by first | (simp [hq5]; done) | (simp; omega) | (simp at hq5 ⊢; exact hq5) | exact hq5
      by_cases hq6 : y < 0
      ·skip
       have hy0 : y < 0 := by assumption
       have HN := Lib.hid (show stepC ls ⟨pn, pw, va, vs, vc, sa, ss, pc_⟩ ⟨k0, nm, ak, an, as_⟩ = 4 by unfold stepC; simp only; simp [HX.out, HY.out, HZ.out, *])
       clear hq1 hq2 hq3 hq4 hq5 hq6
       go_enter Tryz.func87, Tryz.ntmps87
       go_wp2_with (first | (go_at_call 119; refine (Var_is _ nm _ (HR.out.nil (by repeat (first | exact kzr _ _ | assumption | refine kzd ?_ | refine kzn ?_ _ | refine kza ?_ _ | refine kzs ?_ (by assumption))))).mono ?_; rintro e w1 ⟨rfl, hk1⟩; rw [show varIx _ _ = _ from HX.out]; obtain ⟨hc1, hf1⟩ := hk1.rules; have hz1_0 : w.heap.size < w1.heap.size := (by have := hk1.size; first | omega | (simp at this; omega)); have hz1_1 : w.heap.size + 1 < w1.heap.size := (by have := hk1.size; first | omega | (simp at this; omega))) | (go_at_call 120; refine (Arg_is ⟨pn, pw, va, vs, vc, sa, ss, pc_⟩ ⟨k0, nm, ak, an, as_⟩ _ (HR.out.nil (by repeat (first | exact kzr _ _ | assumption | refine kzd ?_ | refine kzn ?_ _ | refine kza ?_ _ | refine kzs ?_ (by assumption))))).mono ?_; rintro e w2 ⟨rfl, hk2⟩; rw [show argC _ _ = _ from HZ.out]))
       rw [HW.out]
       have g0 := G0.out
       have g1 := G1.out
       have g2 := G2.out
       have g3 := G3.out
       have q0 := Q0.out
       have q1 := Q1.out
       have q2 := Q2.out
       have q3 := Q3.out
       have q4 := Q4.out
       obtain ⟨m0, m1, m2, m3, m4, m5, hcb⟩ := (HC.out.nil HK.out).cells
       simp only at m0 m1 m2 m3
       obtain ⟨kk, hlm⟩ := (HC.out.nil HK.out).lm
       have hlook := ix_none hlm nm HS.out (by rw [HY.out]; assumption)
       clear hlm
       go_big_quiet (fail)
       go_wp2_with (first | (go_at_call 120; refine (Arg_is ⟨pn, pw, va, vs, vc, sa, ss, pc_⟩ ⟨k0, nm, ak, an, as_⟩ _ (HR.out.nil <| HK.out.step (by repeat (first | exact kzr _ _ | assumption | refine kzd ?_ | refine kzn ?_ _ | refine kza ?_ _ | refine kzs ?_ (by assumption))))).mono ?_; rintro e w2 ⟨rfl, hk2⟩; rw [show argC _ _ = _ from HZ.out]))
       go_ret
       exact ⟨by rw [HN.out]; rfl, HK.out.step (by repeat (first | exact kzr _ _ | assumption | refine kzd ?_ | refine kzn ?_ _ | refine kza ?_ _ | refine kzs ?_ (by assumption)))⟩
      ·skip
       obtain ⟨j, hj, hjl⟩ : ∃ j : Nat, y = j ∧ j < ls.length := by
        rcases HYN.out with h | ⟨j, h, hl⟩
        ·rw [HY.out] at h; omega
        ·exact ⟨j, HY.out.symm.trans h, by simpa using hl⟩
       subst hj
       obtain ⟨l, hl⟩ : ∃ l, ls[j]? = some l := ⟨_, List.getElem?_eq_getElem hjl⟩
       obtain ⟨b, off, rfl, c0, c1, c2, c3, c4⟩ := (HM.out.l).at hl
       have hbl : b < w.heap.size := World.block_lt_of_cell? _ _ c0
       have hjI : (j : Int) < (ls.length : Int) := by omega
       have hls := hl
       by_cases hq7 : l.src.toList = pn.toList
       ·skip
        have fq7_0y : (l.src.toList != pn.toList) = false := by first | (simp [hq7]; done) | (simp; omega) | (simp at hq7 ⊢; exact hq7) | exact hq7
        have fq7_1y : (l.src.toList == pn.toList) = true := by first | (simp [hq7]; done) | (simp; omega) | (simp at hq7 ⊢; exact hq7) | exact hq7
        have fq7_2y : decide (l.src.toList = pn.toList) = true := by first | (simp [hq7]; done) | (simp; omega) | (simp at hq7 ⊢; exact hq7) | exact hq7
        have HN := Lib.hid (show stepC ls ⟨pn, pw, va, vs, vc, sa, ss, pc_⟩ ⟨k0, nm, ak, an, as_⟩ = z by rw [stepC_own (by simp only; omega) (by simp only; omega) (by simp only; omega) HY.out hls]; simp only; rw [if_pos (by assumption)]; exact HZ.out)
        clear hq1 hq2 hq3 hq4 hq5 hq6 hl hls hq7
        go_enter Tryz.func87, Tryz.ntmps87
        go_wp2_with (first | (go_at_call 119; refine (Var_is _ nm _ (HR.out.nil (by repeat (first | exact kzr _ _ | assumption | refine kzd ?_ | refine kzn ?_ _ | refine kza ?_ _ | refine kzs ?_ (by assumption))))).mono ?_; rintro e w1 ⟨rfl, hk1⟩; rw [show varIx _ _ = _ from HX.out]; obtain ⟨hc1, hf1⟩ := hk1.rules; have hz1_0 : w.heap.size < w1.heap.size := (by have := hk1.size; first | omega | (simp at this; omega)); have hz1_1 : w.heap.size + 1 < w1.heap.size := (by have := hk1.size; first | omega | (simp at this; omega))) | (go_at_call 120; refine (Arg_is ⟨pn, pw, va, vs, vc, sa, ss, pc_⟩ ⟨k0, nm, ak, an, as_⟩ _ (HR.out.nil (by repeat (first | exact kzr _ _ | assumption | refine kzd ?_ | refine kzn ?_ _ | refine kza ?_ _ | refine kzs ?_ (by assumption))))).mono ?_; rintro e w2 ⟨rfl, hk2⟩; rw [show argC _ _ = _ from HZ.out]))
        rw [HW.out]
        have g0 := G0.out
        have g1 := G1.out
        have g2 := G2.out
        have g3 := G3.out
        have q0 := Q0.out
        have q1 := Q1.out
        have q2 := Q2.out
        have q3 := Q3.out
        have q4 := Q4.out
        obtain ⟨m0, m1, m2, m3, m4, m5, hcb⟩ := (HC.out.nil HK.out).cells
        simp only at m0 m1 m2 m3
        obtain ⟨kk, hlm⟩ := (HC.out.nil HK.out).lm
        have hlook := ix_some hlm nm HS.out HY.out
        have lc1 := HK.out.cell c1 (fun h => h)
        clear hlm
        go_big_quiet (fail)
        go_wp2_with fail
        go_big_quiet (fail)
        go_wp2_with (first | (go_at_call 120; refine (Arg_is ⟨pn, pw, va, vs, vc, sa, ss, pc_⟩ ⟨k0, nm, ak, an, as_⟩ _ (HR.out.nil <| HK.out.step (by repeat (first | exact kzr _ _ | assumption | refine kzd ?_ | refine kzn ?_ _ | refine kza ?_ _ | refine kzs ?_ (by assumption))))).mono ?_; rintro e w2 ⟨rfl, hk2⟩; rw [show argC _ _ = _ from HZ.out]))
        go_ret
        exact ⟨by rw [HN.out]; rfl, HK.out.step (by repeat (first | exact kzr _ _ | assumption | refine kzd ?_ | refine kzn ?_ _ | refine kza ?_ _ | refine kzs ?_ (by assumption)))⟩
       ·skip
        have fq7_0n : (l.src.toList != pn.toList) = true := by first | (simp [hq7]; done) | (simp; omega) | (simp at hq7 ⊢; exact hq7) | exact hq7
        have fq7_1n : (l.src.toList == pn.toList) = false := by first | (simp [hq7]; done) | (simp; omega) | (simp at hq7 ⊢; exact hq7) | exact hq7
        have fq7_2n : decide (l.src.toList = pn.toList) = false := by first | (simp [hq7]; done) | (simp; omega) | (simp at hq7 ⊢; exact hq7) | exact hq7
        have HN := Lib.hid (show stepC ls ⟨pn, pw, va, vs, vc, sa, ss, pc_⟩ ⟨k0, nm, ak, an, as_⟩ = 47 by rw [stepC_own (by simp only; omega) (by simp only; omega) (by simp only; omega) HY.out hls]; simp only; rw [if_neg (by assumption)])
        clear hq1 hq2 hq3 hq4 hq5 hq6 hl hls hq7
        go_enter Tryz.func87, Tryz.ntmps87
        go_wp2_with (first | (go_at_call 119; refine (Var_is _ nm _ (HR.out.nil (by repeat (first | exact kzr _ _ | assumption | refine kzd ?_ | refine kzn ?_ _ | refine kza ?_ _ | refine kzs ?_ (by assumption))))).mono ?_; rintro e w1 ⟨rfl, hk1⟩; rw [show varIx _ _ = _ from HX.out]; obtain ⟨hc1, hf1⟩ := hk1.rules; have hz1_0 : w.heap.size < w1.heap.size := (by have := hk1.size; first | omega | (simp at this; omega)); have hz1_1 : w.heap.size + 1 < w1.heap.size := (by have := hk1.size; first | omega | (simp at this; omega))) | (go_at_call 120; refine (Arg_is ⟨pn, pw, va, vs, vc, sa, ss, pc_⟩ ⟨k0, nm, ak, an, as_⟩ _ (HR.out.nil (by repeat (first | exact kzr _ _ | assumption | refine kzd ?_ | refine kzn ?_ _ | refine kza ?_ _ | refine kzs ?_ (by assumption))))).mono ?_; rintro e w2 ⟨rfl, hk2⟩; rw [show argC _ _ = _ from HZ.out]))
        rw [HW.out]
        have g0 := G0.out
        have g1 := G1.out
        have g2 := G2.out
        have g3 := G3.out
        have q0 := Q0.out
        have q1 := Q1.out
        have q2 := Q2.out
        have q3 := Q3.out
        have q4 := Q4.out
        obtain ⟨m0, m1, m2, m3, m4, m5, hcb⟩ := (HC.out.nil HK.out).cells
        simp only at m0 m1 m2 m3
        obtain ⟨kk, hlm⟩ := (HC.out.nil HK.out).lm
        have hlook := ix_some hlm nm HS.out HY.out
        have lc1 := HK.out.cell c1 (fun h => h)
        clear hlm
        go_big_quiet (fail)
        go_wp2_with fail
        go_big_quiet (fail)
        go_wp2_with (first | (go_at_call 120; refine (Arg_is ⟨pn, pw, va, vs, vc, sa, ss, pc_⟩ ⟨k0, nm, ak, an, as_⟩ _ (HR.out.nil <| HK.out.step (by repeat (first | exact kzr _ _ | assumption | refine kzd ?_ | refine kzn ?_ _ | refine kza ?_ _ | refine kzs ?_ (by assumption))))).mono ?_; rintro e w2 ⟨rfl, hk2⟩; rw [show argC _ _ = _ from HZ.out]))
        go_ret
        exact ⟨by rw [HN.out]; rfl, HK.out.step (by repeat (first | exact kzr _ _ | assumption | refine kzd ?_ | refine kzn ?_ _ | refine kza ?_ _ | refine kzs ?_ (by assumption)))⟩
     ·skip
      have fq5_0n : (k0 != 4) = true := by first | (simp [hq5]; done) | (simp; omega) | (simp at hq5 ⊢; exact hq5) | exact hq5
      have hxn := HXN.out
      rw [HX.out] at hxn
      by_cases hq8 : x < 0
      ·skip
       have fq8_0y : (x == -1) = true := by first | (simp [hq8]; done) | (simp; omega) | (simp at hq8 ⊢; exact hq8) | exact hq8
       have HN := Lib.hid (show stepC ls ⟨pn, pw, va, vs, vc, sa, ss, pc_⟩ ⟨k0, nm, ak, an, as_⟩ = 4 by unfold stepC; simp only; simp [HX.out, HY.out, HZ.out, *])
       clear hq1 hq2 hq3 hq4 hq5 hxn hq8
       go_enter Tryz.func87, Tryz.ntmps87
       go_wp2_with (first | (go_at_call 119; refine (Var_is _ nm _ (HR.out.nil (by repeat (first | exact kzr _ _ | assumption | refine kzd ?_ | refine kzn ?_ _ | refine kza ?_ _ | refine kzs ?_ (by assumption))))).mono ?_; rintro e w1 ⟨rfl, hk1⟩; rw [show varIx _ _ = _ from HX.out]; obtain ⟨hc1, hf1⟩ := hk1.rules; have hz1_0 : w.heap.size < w1.heap.size := (by have := hk1.size; first | omega | (simp at this; omega)); have hz1_1 : w.heap.size + 1 < w1.heap.size := (by have := hk1.size; first | omega | (simp at this; omega))) | (go_at_call 120; refine (Arg_is ⟨pn, pw, va, vs, vc, sa, ss, pc_⟩ ⟨k0, nm, ak, an, as_⟩ _ (HR.out.nil (by repeat (first | exact kzr _ _ | assumption | refine kzd ?_ | refine kzn ?_ _ | refine kza ?_ _ | refine kzs ?_ (by assumption))))).mono ?_; rintro e w2 ⟨rfl, hk2⟩; rw [show argC _ _ = _ from HZ.out]))
       go_ret
       exact ⟨by rw [HN.out]; rfl, (by repeat (first | exact kzr _ _ | assumption | refine kzd ?_ | refine kzn ?_ _ | refine kza ?_ _ | refine kzs ?_ (by assumption)))⟩
      ·skip
       have fq8_0n : (x == -1) = false := by first | (simp [hq8]; done) | (simp; omega) | (simp at hq8 ⊢; exact hq8) | exact hq8
       have HN := Lib.hid (show stepC ls ⟨pn, pw, va, vs, vc, sa, ss, pc_⟩ ⟨k0, nm, ak, an, as_⟩ = z by unfold stepC; simp only; simp [HX.out, HY.out, HZ.out, *])
       clear hq1 hq2 hq3 hq4 hq5 hxn hq8
       go_enter Tryz.func87, Tryz.ntmps87
       go_wp2_with (first | (go_at_call 119; refine (Var_is _ nm _ (HR.out.nil (by repeat (first | exact kzr _ _ | assumption | refine kzd ?_ | refine kzn ?_ _ | refine kza ?_ _ | refine kzs ?_ (by assumption))))).mono ?_; rintro e w1 ⟨rfl, hk1⟩; rw [show varIx _ _ = _ from HX.out]; obtain ⟨hc1, hf1⟩ := hk1.rules; have hz1_0 : w.heap.size < w1.heap.size := (by have := hk1.size; first | omega | (simp at this; omega)); have hz1_1 : w.heap.size + 1 < w1.heap.size := (by have := hk1.size; first | omega | (simp at this; omega))) | (go_at_call 120; refine (Arg_is ⟨pn, pw, va, vs, vc, sa, ss, pc_⟩ ⟨k0, nm, ak, an, as_⟩ _ (HR.out.nil (by repeat (first | exact kzr _ _ | assumption | refine kzd ?_ | refine kzn ?_ _ | refine kza ?_ _ | refine kzs ?_ (by assumption))))).mono ?_; rintro e w2 ⟨rfl, hk2⟩; rw [show argC _ _ = _ from HZ.out]))
       go_ret
       exact ⟨by rw [HN.out]; rfl, (by repeat (first | exact kzr _ _ | assumption | refine kzd ?_ | refine kzn ?_ _ | refine kza ?_ _ | refine kzs ?_ (by assumption)))⟩
end Go.Proofs.YtniocgnfgpaioaaGreat.Mo
end
